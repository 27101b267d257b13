/- Trees in memory, to be read: the elements' cells, and what keeps them. Conditions: none. The walks over trees that only read: the law's big, tree.size. Conditions: the tree lies in memory. -/
import Derived.Test.YtcicibeggkmlcaaGreatDoorLmXJ2
import Derived.Test.YtcicibeggkmlcaaGreatDoorPlU
import Derived.Maps.AppendAt
namespace Go.Proofs.YtcicibeggkmlcaaGreatDoor
open Go.RowKit Go.Sof

theorem cell_heap {w w' : World} {g : Nat} (h : w'.heap[g]? = w.heap[g]?) (i : Nat) : w'.cell? ⟨g, i, none⟩ = w.cell? ⟨g, i, none⟩ := by unfold World.cell?; rw [h]

/-- attributes in blocks that Q lets. -/
def AttrsQ (w : World) (Q : Nat → Prop) (p : Option Addr) (al : List PAttr) : Prop :=
  ∀ (j : Nat) (hj : j < al.length), ∃ b o, p = some ⟨b, o, none⟩ ∧ Q b ∧ w.cell? ⟨b, o + j * 2, none⟩ = some (.string ⟨(al[j]'hj).name.toArray⟩) ∧ w.cell? ⟨b, o + j * 2 + 1, none⟩ = some (.string ⟨(al[j]'hj).value.toArray⟩)
def KidsD (w : World) (Q : Nat → Prop) (R : Value → PNode → Prop) (p : Option Addr) (ks : List PNode) : Prop :=
  ∀ (i : Nat) (hi : i < ks.length), ∃ g o u0 u1 u2 u3 u4, p = some ⟨g, o, none⟩ ∧ Q g ∧ w.cell? ⟨g, o + i * 5, none⟩ = some u0 ∧ w.cell? ⟨g, o + i * 5 + 1, none⟩ = some u1 ∧ w.cell? ⟨g, o + i * 5 + 2, none⟩ = some u2 ∧
    w.cell? ⟨g, o + i * 5 + 3, none⟩ = some u3 ∧ w.cell? ⟨g, o + i * 5 + 4, none⟩ = some u4 ∧ R (.agg #[u0, u1, u2, u3, u4]) (ks[i]'hi)
def nodeV (n : PNode) (pa : Option Addr) (ca : Nat) (pk : Option Addr) (ck : Nat) : Value :=
  .agg #[.string ⟨n.name.toArray⟩, .int .i64 n.pos, .slice pa n.attrs.length ca, .slice pk n.kids.length ck, .string ⟨n.text.toArray⟩]
/-- an element as a value, its elements in blocks that Q lets, no more than d deep. -/
def NodeD (w : World) (Q : Nat → Prop) : Nat → Value → PNode → Prop
  | 0, _, _ => False
  | d + 1, v, n => ∃ pa ca pk ck, v = nodeV n pa ca pk ck ∧ n.attrs.length ≤ ca ∧ n.kids.length ≤ ck ∧ AttrsQ w Q pa n.attrs ∧ KidsD w Q (NodeD w Q d) pk n.kids
def NodeR (w : World) (Q : Nat → Prop) (v : Value) (n : PNode) : Prop := ∃ d, NodeD w Q d v n

theorem AttrsQ.move {w w' : World} {Q Q' : Nat → Prop} {p : Option Addr} {al : List PAttr} (hk : ∀ g, Q g → g < w.heap.size → w'.heap[g]? = w.heap[g]? ∧ Q' g) (h : AttrsQ w Q p al) : AttrsQ w' Q' p al := fun j hj => by
  obtain ⟨b, o, e, hq, c0, c1⟩ := h j hj
  obtain ⟨e1, e2⟩ := hk b hq (World.block_lt_of_cell? w _ c0)
  exact ⟨b, o, e, e2, (cell_heap e1 _).trans c0, (cell_heap e1 _).trans c1⟩
theorem KidsD.move {w w' : World} {Q Q' : Nat → Prop} {R R' : Value → PNode → Prop} {p : Option Addr} {ks : List PNode} (hk : ∀ g, Q g → g < w.heap.size → w'.heap[g]? = w.heap[g]? ∧ Q' g) (hr : ∀ v n, R v n → R' v n) (h : KidsD w Q R p ks) :
    KidsD w' Q' R' p ks := fun i hi => by
  obtain ⟨g, o, u0, u1, u2, u3, u4, e, hq, c0, c1, c2, c3, c4, r⟩ := h i hi
  obtain ⟨e1, e2⟩ := hk g hq (World.block_lt_of_cell? w _ c0)
  exact ⟨g, o, u0, u1, u2, u3, u4, e, e2, (cell_heap e1 _).trans c0, (cell_heap e1 _).trans c1, (cell_heap e1 _).trans c2, (cell_heap e1 _).trans c3, (cell_heap e1 _).trans c4, hr _ _ r⟩
theorem NodeD.move {w w' : World} {Q Q' : Nat → Prop} (hk : ∀ g, Q g → g < w.heap.size → w'.heap[g]? = w.heap[g]? ∧ Q' g) : ∀ {d : Nat} {v : Value} {n : PNode}, NodeD w Q d v n → NodeD w' Q' d v n
  | 0, _, _, h => h
  | d + 1, v, n, h => by
    obtain ⟨pa, ca, pk, ck, e, h1, h2, h3, h4⟩ := h
    exact ⟨pa, ca, pk, ck, e, h1, h2, h3.move hk, h4.move hk (fun _ _ r => NodeD.move hk r)⟩
theorem NodeD.up {w : World} {Q : Nat → Prop} : ∀ {d d' : Nat} {v : Value} {n : PNode}, NodeD w Q d v n → d ≤ d' → NodeD w Q d' v n
  | 0, _, _, _, h, _ => False.elim h
  | d + 1, 0, _, _, _, hd => by omega
  | d + 1, d' + 1, v, n, h, hd => by
    obtain ⟨pa, ca, pk, ck, e, h1, h2, h3, h4⟩ := h
    exact ⟨pa, ca, pk, ck, e, h1, h2, h3, h4.move (fun _ hq _ => ⟨rfl, hq⟩) (fun _ _ r => NodeD.up r (by omega))⟩
theorem NodeR.move {w w' : World} {Q Q' : Nat → Prop} (hk : ∀ g, Q g → g < w.heap.size → w'.heap[g]? = w.heap[g]? ∧ Q' g) {v : Value} {n : PNode} (h : NodeR w Q v n) : NodeR w' Q' v n := by
  obtain ⟨d, h⟩ := h; exact ⟨d, h.move hk⟩
theorem NodeD.below {w w' : World} {Q : Nat → Prop} {d : Nat} {v : Value} {n : PNode} (h : NodeD w Q d v n) (hb : Below w.heap.size w w') : NodeD w' Q d v n := h.move (fun g hq hg => ⟨hb.block g hg, hq⟩)
theorem NodeR.below {w w' : World} {Q : Nat → Prop} {v : Value} {n : PNode} (h : NodeR w Q v n) (hb : Below w.heap.size w w') : NodeR w' Q v n := h.move (fun g hq hg => ⟨hb.block g hg, hq⟩)
theorem AttrsQ.flat {w : World} {Q : Nat → Prop} {p : Option Addr} {al : List PAttr} (h : AttrsQ w Q p al) : AttrsF w p al := fun j hj => by
  obtain ⟨b, o, e, _, c⟩ := h j hj; exact ⟨b, o, e, c⟩

/-- the cells of elements, as their row has them. -/
def KidsX (w : World) (Q : Nat → Prop) : List PNode → List Value → Prop
  | [], xs => xs = []
  | n :: r, xs => ∃ u0 u1 u2 u3 u4 ys, xs = u0 :: u1 :: u2 :: u3 :: u4 :: ys ∧ NodeR w Q (.agg #[u0, u1, u2, u3, u4]) n ∧ KidsX w Q r ys
theorem KidsX.move {w w' : World} {Q Q' : Nat → Prop} (hk : ∀ g, Q g → g < w.heap.size → w'.heap[g]? = w.heap[g]? ∧ Q' g) : ∀ {ks : List PNode} {xs : List Value}, KidsX w Q ks xs → KidsX w' Q' ks xs
  | [], _, h => h
  | n :: r, xs, h => by
    obtain ⟨u0, u1, u2, u3, u4, ys, e, h1, h2⟩ := h
    exact ⟨u0, u1, u2, u3, u4, ys, e, h1.move hk, h2.move hk⟩
theorem KidsX.snoc {w : World} {Q : Nat → Prop} : ∀ {ks : List PNode} {xs : List Value} {n : PNode} {u0 u1 u2 u3 u4 : Value}, KidsX w Q ks xs → NodeR w Q (.agg #[u0, u1, u2, u3, u4]) n → KidsX w Q (ks ++ [n]) (xs ++ [u0, u1, u2, u3, u4])
  | [], xs, n, u0, u1, u2, u3, u4, h, hn => by have h' : xs = [] := h; subst h'; exact ⟨u0, u1, u2, u3, u4, [], rfl, hn, rfl⟩
  | m :: r, xs, n, u0, u1, u2, u3, u4, h, hn => by
    obtain ⟨z0, z1, z2, z3, z4, ys, rfl, h1, h2⟩ := h
    exact ⟨z0, z1, z2, z3, z4, _, rfl, h1, h2.snoc hn⟩
theorem KidsX.len {w : World} {Q : Nat → Prop} : ∀ {ks : List PNode} {xs : List Value}, KidsX w Q ks xs → xs.length = ks.length * 5
  | [], xs, h => by have h' : xs = [] := h; subst h'; rfl
  | m :: r, xs, h => by
    obtain ⟨z0, z1, z2, z3, z4, ys, rfl, h1, h2⟩ := h
    have := h2.len
    simp only [List.length_cons, this]; omega
theorem KidsX.at {w : World} {Q : Nat → Prop} : ∀ {ks : List PNode} {xs : List Value}, KidsX w Q ks xs → ∃ d, ∀ (i : Nat) (hi : i < ks.length), ∃ u0 u1 u2 u3 u4, NodeD w Q d (.agg #[u0, u1, u2, u3, u4]) (ks[i]'hi) ∧
    xs[i * 5]? = some u0 ∧ xs[i * 5 + 1]? = some u1 ∧ xs[i * 5 + 2]? = some u2 ∧ xs[i * 5 + 3]? = some u3 ∧ xs[i * 5 + 4]? = some u4
  | [], xs, _ => ⟨0, fun i hi => absurd hi (by simp)⟩
  | n :: r, xs, h => by
    obtain ⟨z0, z1, z2, z3, z4, ys, rfl, ⟨d1, h1⟩, h2⟩ := h
    obtain ⟨d2, h3⟩ := h2.at
    refine ⟨max d1 d2, fun i hi => ?_⟩
    cases i with
    | zero => exact ⟨z0, z1, z2, z3, z4, h1.up (Nat.le_max_left _ _), rfl, rfl, rfl, rfl, rfl⟩
    | succ i =>
      obtain ⟨u0, u1, u2, u3, u4, e, c0, c1, c2, c3, c4⟩ := h3 i (by simpa using hi)
      refine ⟨u0, u1, u2, u3, u4, e.up (Nat.le_max_right _ _), ?_⟩
      rw [show (i + 1) * 5 = i * 5 + 5 from by omega, show i * 5 + 5 + 1 = (i * 5 + 1) + 5 from by omega, show i * 5 + 5 + 2 = (i * 5 + 2) + 5 from by omega, show i * 5 + 5 + 3 = (i * 5 + 3) + 5 from by omega, show i * 5 + 5 + 4 = (i * 5 + 4) + 5 from by omega]
      simp only [List.getElem?_cons_succ]
      exact ⟨c0, c1, c2, c3, c4⟩
theorem node_form {w : World} {B e n : Nat} {v : Value} {xs : List Value} (h : w.ownsRow B e 5 v n xs) : ∃ p c, v = .slice p n c ∧ n ≤ c := by
  rcases h.2 with ⟨hv, h0⟩ | ⟨g, cap, cur, hv, _, hg, hcap, _, _, ht⟩
  · subst h0; exact ⟨none, 0, hv, Nat.le_refl _⟩
  · exact ⟨_, cap, hv, hcap⟩
/-- a row of elements of a call's own is read. -/
theorem kidsX_read {w : World} {B e : Nat} {Q Q' : Nat → Prop} {p : Option Addr} {c : Nat} {ks : List PNode} {xs : List Value} (h : w.ownsRow B e 5 (.slice p ks.length c) ks.length xs) (hm : KidsX w Q ks xs)
    (hq : ∀ g, Q g → g < w.heap.size → Q' g) (hB : ∀ g, B ≤ g → Q' g) : ∃ d, KidsD w Q' (NodeD w Q' d) p ks := by
  rcases h.2 with ⟨hv, h0⟩ | ⟨g, cap, cur, hv, hb, hg, hcap, _, _, ht⟩
  · exact ⟨0, fun i hi => by omega⟩
  · simp only [Value.slice.injEq] at hv
    obtain ⟨rfl, -, rfl⟩ := hv
    obtain ⟨d, hd⟩ := hm.at
    refine ⟨d, fun i hi => ?_⟩
    obtain ⟨u0, u1, u2, u3, u4, e, c0, c1, c2, c3, c4⟩ := hd i hi
    have key : ∀ j u, xs[j]? = some u → w.cell? ⟨g, 0 + j, none⟩ = some u := by
      intro j u h1
      rw [← ht, List.getElem?_take] at h1
      split at h1
      · rw [Array.getElem?_toList] at h1
        unfold World.cell?; rw [hg]
        simpa using h1
      · simp at h1
    exact ⟨g, 0, u0, u1, u2, u3, u4, rfl, hB g hb, key _ _ c0, key _ _ c1, key _ _ c2, key _ _ c3, key _ _ c4, e.move (fun g hq' hg' => ⟨rfl, hq g hq' hg'⟩)⟩
/-- an element of elements. -/
theorem KidsD.get {w : World} {Q : Nat → Prop} {d : Nat} {p : Option Addr} {ks : List PNode} (h : KidsD w Q (NodeD w Q d) p ks) (i : Nat) (hi : i < ks.length) :
    ∃ g o pa ca pk ck, p = some ⟨g, o, none⟩ ∧ Q g ∧ w.cell? ⟨g, o + i * 5, none⟩ = some (.string ⟨(ks[i]'hi).name.toArray⟩) ∧ w.cell? ⟨g, o + i * 5 + 1, none⟩ = some (.int .i64 (ks[i]'hi).pos) ∧
      w.cell? ⟨g, o + i * 5 + 2, none⟩ = some (.slice pa (ks[i]'hi).attrs.length ca) ∧ w.cell? ⟨g, o + i * 5 + 3, none⟩ = some (.slice pk (ks[i]'hi).kids.length ck) ∧ w.cell? ⟨g, o + i * 5 + 4, none⟩ = some (.string ⟨(ks[i]'hi).text.toArray⟩) ∧
      NodeD w Q d (nodeV (ks[i]'hi) pa ca pk ck) (ks[i]'hi) := by
  obtain ⟨g, o, u0, u1, u2, u3, u4, e, hq, c0, c1, c2, c3, c4, r⟩ := h i hi
  cases d with
  | zero => exact False.elim r
  | succ d =>
    have r' := r
    obtain ⟨pa, ca, pk, ck, ev, _⟩ := r
    have ev2 := ev
    unfold nodeV at ev2
    simp only [Value.agg.injEq, Array.mk.injEq, List.cons.injEq, and_true] at ev2
    obtain ⟨rfl, rfl, rfl, rfl, rfl⟩ := ev2
    exact ⟨g, o, pa, ca, pk, ck, e, hq, c0, c1, c2, c3, c4, r'⟩
end Go.Proofs.YtcicibeggkmlcaaGreatDoor

namespace Go.Proofs.YtcicibeggkmlcaaGreatDoor
open Go.RowKit Go.Sof

/-- an element in a block of its own. -/
def Nd5 (w : World) (b : Nat) (N : Bytes) (P : Int) (va vk : Value) (T : Bytes) : Prop := w.heap[b]? = some (.cells #[.string ⟨N.toArray⟩, .int .i64 P, va, vk, .string ⟨T.toArray⟩] 47 (0, 0))
theorem Nd5.new (w : World) (N : Bytes) (P : Int) (va vk : Value) (T : Bytes) : Nd5 (w.alloc (.cells #[.string ⟨N.toArray⟩, .int .i64 P, va, vk, .string ⟨T.toArray⟩] 47)) w.heap.size N P va vk T := heap_alloc_new w _
theorem Nd5.lt {w : World} {b : Nat} {N : Bytes} {P : Int} {va vk : Value} {T : Bytes} (h : Nd5 w b N P va vk T) : b < w.heap.size := (Array.getElem?_eq_some_iff.1 h).1
theorem Nd5.below {w w' : World} {b : Nat} {N : Bytes} {P : Int} {va vk : Value} {T : Bytes} (h : Nd5 w b N P va vk T) (hb : Below w.heap.size w w') : Nd5 w' b N P va vk T := (hb.block b h.lt).trans h
theorem Nd5.c0 {w : World} {b : Nat} {N : Bytes} {P : Int} {va vk : Value} {T : Bytes} (h : Nd5 w b N P va vk T) : w.cell? ⟨b, 0, none⟩ = some (.string ⟨N.toArray⟩) := by unfold Nd5 at h; unfold World.cell?; rw [h]; rfl
theorem Nd5.c1 {w : World} {b : Nat} {N : Bytes} {P : Int} {va vk : Value} {T : Bytes} (h : Nd5 w b N P va vk T) : w.cell? ⟨b, 1, none⟩ = some (.int .i64 P) := by unfold Nd5 at h; unfold World.cell?; rw [h]; rfl
theorem Nd5.c2 {w : World} {b : Nat} {N : Bytes} {P : Int} {va vk : Value} {T : Bytes} (h : Nd5 w b N P va vk T) : w.cell? ⟨b, 2, none⟩ = some va := by unfold Nd5 at h; unfold World.cell?; rw [h]; rfl
theorem Nd5.c3 {w : World} {b : Nat} {N : Bytes} {P : Int} {va vk : Value} {T : Bytes} (h : Nd5 w b N P va vk T) : w.cell? ⟨b, 3, none⟩ = some vk := by unfold Nd5 at h; unfold World.cell?; rw [h]; rfl
theorem Nd5.c4 {w : World} {b : Nat} {N : Bytes} {P : Int} {va vk : Value} {T : Bytes} (h : Nd5 w b N P va vk T) : w.cell? ⟨b, 4, none⟩ = some (.string ⟨T.toArray⟩) := by unfold Nd5 at h; unfold World.cell?; rw [h]; rfl

theorem Nd5.fz {w : World} {b : Nat} {N : Bytes} {P : Int} {va vk : Value} {T : Bytes} (h : Nd5 w b N P va vk T) (i : Nat) : w.frozen? ⟨b, i, none⟩ = false := by unfold Nd5 at h; unfold World.frozen?; rw [h]; simp

theorem tsizeL_mem : ∀ (ks : List PNode) (k : PNode), k ∈ ks → tsize k ≤ tsizeL ks
  | [], k, h => by simp at h
  | n :: r, k, h => by
    rw [tsizeL]
    rcases List.mem_cons.1 h with rfl | h
    · omega
    · have := tsizeL_mem r k h; omega
theorem tsizeL_len : ∀ ks : List PNode, ks.length ≤ tsizeL ks
  | [] => by simp [tsizeL]
  | n :: r => by rw [tsizeL]; have := tsizeL_len r; have := tsize_pos n; simp only [List.length_cons]; omega

set_option maxRecDepth 1000000 in
set_option maxHeartbeats 4000000 in
theorem big_c (w0 : World) (Q : Nat → Prop) : ∀ (dd : Nat) (n : PNode) (v : Value), NodeD w0 Q dd v n → tsize n ≤ 4194304 → ∀ (w : World) (d : Nat) (q : Int), Below w0.heap.size w0 w → d ≤ 81 → 0 ≤ q → q ≤ 500 →
    Calls Tryz.prog 33 #[v, .int .i64 d, .int .i64 q] w fun en w' => en = .returned (.int .i64 (bigP n d q)) ∧ Below w.heap.size w w' := by
  intro dd
  induction dd with
  | zero => intro n v h; exact False.elim h
  | succ dd ih =>
    intro n v h hz w d q hlow hd hq0 hq1
    obtain ⟨pa, ca, pk, ck, rfl, hca, hck, hA, hK⟩ := h
    obtain ⟨nm, ps, ats, ks, tx⟩ := n
    simp only [PNode.kids, PNode.attrs] at hca hck hA hK
    have hz2 : tsize (.mk nm ps ats ks tx) = 1 + tsizeL ks := by rw [tsize]
    have hkl := tsizeL_len ks
    have hks : ∀ k ∈ ks, tsize k ≤ 4194304 := fun k hk => by have := tsizeL_mem ks k hk; omega
    have hkl2 : ks.length ≤ 4194304 := by omega
    show Calls Tryz.prog 33 #[.agg #[.string ⟨nm.toArray⟩, .int .i64 ps, .slice pa ats.length ca, .slice pk ks.length ck, .string ⟨tx.toArray⟩], .int .i64 d, .int .i64 q] w _
    clear hca hA hz hz2 hkl
    obtain ⟨c, hc⟩ : ∃ c, c = ks.length := ⟨_, rfl⟩
    obtain ⟨al, hal⟩ : ∃ al, al = ats.length := ⟨_, rfl⟩
    rw [← hc] at hkl2 hck ⊢
    rw [← hal]
    by_cases h80 : 80 < d
    · have hI : (80 : Int) < (d : Int) := by omega
      have hbp : bigP (.mk nm ps ats ks tx) d q = -1 := by unfold bigP; rw [if_pos h80]
      rw [hbp]
      clear hK hks hlow ih hbp hc hal hck hkl2
      go_enter Tryz.func33, Tryz.ntmps33
      go_wp2_with fail
      go_ret
      exact ⟨rfl, (Below.refl _ w).alloc (Nat.le_refl _) _⟩
    · have hI : (d : Int) ≤ 80 := by omega
      have hbp : bigP (.mk nm ps ats ks tx) d q = bigL ks (d + 1) (q - 1) := by unfold bigP; rw [if_neg h80]
      rw [hbp]
      obtain ⟨X, hX⟩ : ∃ X, X = bigL ks (d + 1) (q - 1) := ⟨_, rfl⟩
      rw [← hX]
      have HF := Lib.hid (And.intro ih (And.intro hK (And.intro hks (And.intro hlow (And.intro hc hX))))); clear ih hK hks hlow hc hX hbp hal
      have hE := Nd5.new w nm ps (.slice pa al ca) (.slice pk c ck) tx
      go_enter Tryz.func33, Tryz.ntmps33
      go_wp2_with fail
      obtain ⟨wB, hwB⟩ : ∃ wB, wB = w.alloc (.cells #[.string ⟨nm.toArray⟩, .int .i64 ps, .slice pa al ca, .slice pk c ck, .string ⟨tx.toArray⟩] 47) := ⟨_, rfl⟩
      rw [← hwB] at hE ⊢
      have hBB : Below w.heap.size w wB := by rw [hwB]; exact (Below.refl _ w).alloc (Nat.le_refl _) _
      have HE := Lib.hid (And.intro hE hBB); clear hE hBB hwB
      go_loopg [2, 7] c (fun g lv i wr => Below wB.heap.size wB wr ∧ ∃ (k : Nat) (z : Int), k ≤ c ∧ g = c - k ∧ i = .int .i64 k ∧ lv = .int .i64 z ∧ -1 ≤ z ∧ z ≤ 500 ∧ bigL (ks.drop k) (d + 1) z = X)
      case atStart => exact ⟨Below.refl _ _, 0, q - 1, Nat.zero_le _, rfl, rfl, rfl, by omega, by omega, HF.out.2.2.2.2.2.symm⟩
      case round =>
        obtain ⟨hb, k, z, hk, hg, rfl, rfl, hz0, hz1, hx⟩ := hrel
        have c3 := (HE.out.1.below hb).c3
        by_cases hlt : k < c
        · have hkI : (k : Int) < (c : Int) := by omega
          have hka : k < ks.length := by rw [← HF.out.2.2.2.2.1]; exact hlt
          rw [List.drop_eq_getElem_cons hka] at hx
          by_cases hzz : z < 0
          · rw [bigL_neg _ _ _ hzz] at hx
            subst hx
            have HB := Lib.hid hb; clear hb hg
            go_wp2_with fail
            go_ret
            exact ⟨rfl, HE.out.2.trans (HB.out.mono HE.out.2.size)⟩
          · have hlw : Below w0.heap.size w0 wr := HF.out.2.2.2.1.trans ((HE.out.2.trans (hb.mono HE.out.2.size)).mono HF.out.2.2.2.1.size)
            obtain ⟨g0, o0, pa1, ca1, pk1, ck1, rfl, _, e0, e1, e2, e3, e4, hN⟩ := HF.out.2.1.get k hka
            have a0 := cell_keep hlw e0; have a1 := cell_keep hlw e1; have a2 := cell_keep hlw e2; have a3 := cell_keep hlw e3; have a4 := cell_keep hlw e4
            clear e0 e1 e2 e3 e4
            have hms := HF.out.2.2.1 _ (List.getElem_mem hka)
            generalize ks[k]'hka = m at *
            have hcall := HF.out.1 m _ hN hms wr (d + 1) z hlw (by omega) (by omega) (by omega)
            rw [show ((d + 1 : Nat) : Int) = (d : Int) + 1 from by omega] at hcall
            have hle := bigP_le m (d + 1) z (by omega)
            have hx2 : bigL (ks.drop (k + 1)) (d + 1) (bigP m (d + 1) z) = X := by rw [← hx, bigL, if_neg hzz]
            have hz2 : (0 : Int) ≤ z := by omega
            have HC := Lib.hid hcall; clear hcall hN
            generalize bigP m (d + 1) z = z2 at *
            have HX := Lib.hid (And.intro hx2 (And.intro hb (And.intro hg hle))); clear hx2 hb hg hle hx hlw hms
            go_wp2_with (first
              | (go_at_call 33; refine HC.out.mono ?_; rintro en w2 ⟨rfl, b2⟩))
            go_roundg (c - (k + 1))
            case measure => have := HX.out.2.2.1; omega
            case rel => exact ⟨HX.out.2.1.trans (b2.mono HX.out.2.1.size), k + 1, z2, by omega, rfl, by go_num, rfl, HX.out.2.2.2.1, by have := HX.out.2.2.2.2; omega, HX.out.1⟩
        · obtain rfl : k = c := by omega
          have hd0 : ks.drop k = [] := by rw [HF.out.2.2.2.2.1]; exact List.drop_length
          rw [hd0, bigL] at hx
          subst hx
          have hkI : decide ((k : Int) < (k : Int)) = false := by simp
          have HB := Lib.hid hb; clear hb hg
          go_wp2_with fail
          go_ret
          exact ⟨rfl, HE.out.2.trans (HB.out.mono HE.out.2.size)⟩

set_option maxRecDepth 1000000 in
set_option maxHeartbeats 4000000 in
theorem size_c (w0 : World) (Q : Nat → Prop) : ∀ (dd : Nat) (n : PNode) (v : Value), NodeD w0 Q dd v n → tsize n ≤ 4194304 → ∀ (w : World), Below w0.heap.size w0 w →
    Calls Tryz.prog 62 #[v] w fun en w' => en = .returned (.int .i64 (sizeC n)) ∧ Below w.heap.size w w' := by
  intro dd
  induction dd with
  | zero => intro n v h; exact False.elim h
  | succ dd ih =>
    intro n v h hz w hlow
    obtain ⟨pa, ca, pk, ck, rfl, hca, hck, hA, hK⟩ := h
    obtain ⟨nm, ps, ats, ks, tx⟩ := n
    simp only [PNode.kids, PNode.attrs] at hca hck hA hK
    have hz2 : tsize (.mk nm ps ats ks tx) = 1 + tsizeL ks := by rw [tsize]
    have hkl := tsizeL_len ks
    have hks : ∀ k ∈ ks, tsize k ≤ 4194304 := fun k hk => by have := tsizeL_mem ks k hk; omega
    have hkl2 : ks.length ≤ 4194304 := by omega
    have hzz : 1 + tsizeL ks ≤ 4194304 := by omega
    show Calls Tryz.prog 62 #[.agg #[.string ⟨nm.toArray⟩, .int .i64 ps, .slice pa ats.length ca, .slice pk ks.length ck, .string ⟨tx.toArray⟩]] w _
    clear hca hA hz hz2 hkl
    obtain ⟨c, hc⟩ : ∃ c, c = ks.length := ⟨_, rfl⟩
    obtain ⟨al, hal⟩ : ∃ al, al = ats.length := ⟨_, rfl⟩
    rw [← hc] at hkl2 hck ⊢
    rw [← hal]
    have hbp : sizeC (.mk nm ps ats ks tx) = sizeCL ks 1 := by rw [sizeC]
    rw [hbp]
    obtain ⟨X, hX⟩ : ∃ X, X = sizeCL ks 1 := ⟨_, rfl⟩
    rw [← hX]
    have HF := Lib.hid (And.intro ih (And.intro hK (And.intro hks (And.intro hlow (And.intro hc (And.intro hX hzz)))))); clear ih hK hks hlow hc hX hbp hal hzz
    have hE := Nd5.new w nm ps (.slice pa al ca) (.slice pk c ck) tx
    go_enter Tryz.func62, Tryz.ntmps62
    go_wp2_with fail
    obtain ⟨wB, hwB⟩ : ∃ wB, wB = w.alloc (.cells #[.string ⟨nm.toArray⟩, .int .i64 ps, .slice pa al ca, .slice pk c ck, .string ⟨tx.toArray⟩] 47) := ⟨_, rfl⟩
    rw [← hwB]
    have hBB : Below w.heap.size w wB := by rw [hwB]; exact (Below.refl _ w).alloc (Nat.le_refl _) _
    have HE := Lib.hid hBB; clear hBB hwB hE
    go_loopg [3, 9] c (fun g lv i wr => Below wB.heap.size wB wr ∧ ∃ (k z : Nat), k ≤ c ∧ g = c - k ∧ i = .int .i64 k ∧ lv = .int .i64 z ∧ z + tsizeL (ks.drop k) ≤ 4194304 ∧ sizeCL (ks.drop k) z = X)
    case atStart => exact ⟨Below.refl _ _, 0, 1, Nat.zero_le _, rfl, rfl, rfl, HF.out.2.2.2.2.2.2, HF.out.2.2.2.2.2.1.symm⟩
    case round =>
      obtain ⟨hb, k, z, hk, hg, rfl, rfl, hz0, hx⟩ := hrel
      by_cases hlt : k < c
      · have hkI : (k : Int) < (c : Int) := by omega
        have hka : k < ks.length := by rw [← HF.out.2.2.2.2.1]; exact hlt
        rw [List.drop_eq_getElem_cons hka] at hx hz0
        have hlw : Below w0.heap.size w0 wr := HF.out.2.2.2.1.trans ((HE.out.trans (hb.mono HE.out.size)).mono HF.out.2.2.2.1.size)
        obtain ⟨g0, o0, pa1, ca1, pk1, ck1, rfl, _, e0, e1, e2, e3, e4, hN⟩ := HF.out.2.1.get k hka
        have a0 := cell_keep hlw e0; have a1 := cell_keep hlw e1; have a2 := cell_keep hlw e2; have a3 := cell_keep hlw e3; have a4 := cell_keep hlw e4
        clear e0 e1 e2 e3 e4
        have hms := HF.out.2.2.1 _ (List.getElem_mem hka)
        generalize ks[k]'hka = m at *
        rw [tsizeL] at hz0
        rw [sizeCL] at hx
        by_cases hzz : 4096 < z
        · rw [if_pos hzz] at hx
          subst hx
          have hzI : (4096 : Int) < (z : Int) := by omega
          have HB := Lib.hid hb; clear hb hg hN hlw hms hz0
          go_wp2_with fail
          go_ret
          exact ⟨rfl, HE.out.trans ((((Below.refl _ wr).alloc (Nat.le_refl _) _).mono HB.out.size |> HB.out.trans).mono HE.out.size)⟩
        · rw [if_neg hzz] at hx
          have hzI : (z : Int) ≤ 4096 := by omega
          have hle := sizeC_le m
          have hcall := fun W hW => HF.out.1 m _ hN hms W (hlw.trans (Below.mono hW hlw.size))
          have HC := Lib.hid hcall; clear hcall hN
          obtain ⟨y, hy⟩ : ∃ y, y = sizeC m := ⟨_, rfl⟩
          have hyI : (y : Int) ≤ 4194304 := by omega
          rw [← hy] at HC hx
          have HX := Lib.hid (And.intro hx (And.intro hb (And.intro hg (And.intro hy (And.intro hle hz0))))); clear hx hb hg hle hlw hms hz0 hy
          go_wp2_with (first
            | (go_at_call 62; refine (HC.out _ ((Below.refl _ wr).alloc (Nat.le_refl _) _)).mono ?_; rintro en w2 ⟨rfl, b2⟩))
          go_roundg (c - (k + 1))
          case measure => have := HX.out.2.2.1; omega
          case rel =>
            refine ⟨HX.out.2.1.trans ((((Below.refl _ wr).alloc (Nat.le_refl _) _).trans (b2.mono (by simp))).mono HX.out.2.1.size), k + 1, z + y, by omega, rfl, by go_num, by go_num, ?_, HX.out.1⟩
            have h1 := HX.out.2.2.2.1
            have h2 := HX.out.2.2.2.2.1
            have h3 := HX.out.2.2.2.2.2
            omega
      · obtain rfl : k = c := by omega
        have hd0 : ks.drop k = [] := by rw [HF.out.2.2.2.2.1]; exact List.drop_length
        rw [hd0, sizeCL] at hx
        subst hx
        have hkI : decide ((k : Int) < (k : Int)) = false := by simp
        have HB := Lib.hid hb; clear hb hg
        go_wp2_with fail
        go_ret
        exact ⟨rfl, HE.out.trans (HB.out.mono HE.out.size)⟩
end Go.Proofs.YtcicibeggkmlcaaGreatDoor
