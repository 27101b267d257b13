/- The walk of slices.Clone at attributes. Conditions: the attributes lie in memory. The walk of tree.Clone. Conditions: the tree lies in memory. The walk of tree.Find. Conditions: the tree lies in memory. -/
import Derived.Test.YtcicibeggkmlcaaGreatDoorTrLJ2
import Derived.Test.YtcicibeggkmlcaaGreatDoorTrIJ3
import Derived.Lib.SliceRun
import Derived.Test.YtcicibeggkmlcaaGreatDoorTrDJ3
import Derived.Test.YtcicibeggkmlcaaGreatDoorPlY
namespace Go.Proofs.YtcicibeggkmlcaaGreatDoor
open Go.RowKit Go.Sof

theorem own_new0 (W : World) (B : Nat) (t size : Nat) (hB : B ≤ W.heap.size) : (W.alloc (.cells #[] t)).ownsRow B t size (.slice (some ⟨W.heap.size, 0, none⟩) 0 0) 0 [] :=
  ⟨by simp, .inr ⟨W.heap.size, 0, #[], rfl, hB, heap_alloc_new W _, Nat.le_refl _, by unfold maxLen; omega, by simp, by simp⟩⟩
theorem attrsF_cells {w : World} {b o : Nat} {al : List PAttr} (h : AttrsF w (some ⟨b, o, none⟩) al) : ∀ (j : Nat) (u : Value), (attrCells al)[j]? = some u → w.cell? ((⟨b, o, none⟩ : Addr).add j) = some u := by
  intro j u hj
  have hlt : j < al.length * 2 := by rw [← attrCells_len al]; exact (List.getElem?_eq_some_iff.1 hj).1
  obtain ⟨b', o', e, c0, c1⟩ := h (j / 2) (by omega)
  simp only [Option.some.injEq, Addr.mk.injEq] at e
  obtain ⟨rfl, rfl, _⟩ := e
  have h2 := attrCells_at al (j / 2) (by omega)
  rw [adr_add]
  by_cases hj2 : j % 2 = 0
  · have e2 : j = j / 2 * 2 := by omega
    rw [e2] at hj ⊢
    rw [h2.1] at hj
    simp only [Option.some.injEq] at hj
    rw [← hj]; exact c0
  · have e2 : j = j / 2 * 2 + 1 := by omega
    rw [e2] at hj ⊢
    rw [h2.2] at hj
    simp only [Option.some.injEq] at hj
    rw [← hj, ← Nat.add_assoc]
    have : (j / 2 * 2 + 1) / 2 = j / 2 := by omega
    exact c1
theorem attrCells_one (al : List PAttr) : ∀ u ∈ attrCells al, u.oneCell' = true := by
  intro u hu
  simp only [attrCells, List.mem_flatMap, attrCell] at hu
  obtain ⟨a, _, h⟩ := hu
  simp only [List.mem_cons, List.not_mem_nil, or_false] at h
  rcases h with rfl | rfl <;> rfl

set_option maxRecDepth 1000000 in
set_option maxHeartbeats 2000000 in
/-- a row of the call's own. -/
theorem aclone_c (w : World) (p : Option Addr) (n c : Nat) (al : List PAttr) (hn : al.length = n) (hb : n ≤ 4194304) (hc : AttrsF w p al) :
    Calls Tryz.prog 92 #[.slice p n c] w fun en w' => (∃ p' c', en = .returned (.slice p' n c') ∧ n ≤ c' ∧ AttrsQ w' (fun g => w.heap.size ≤ g) p' al) ∧ Below w.heap.size w w' := by
  obtain ⟨i0, z0, by0, hi0, hz0, hs0, hb0, hy0, hbl⟩ := info_attr
  have IM := Lib.hid (And.intro hi0 (And.intro hz0 (And.intro hs0 (And.intro hb0 hy0)))); clear hi0 hz0 hs0 hb0 hy0
  have q22 : ∀ (w : World) (a : Option Addr) (n c n' c' : Nat), (binOp .eql 39 (.slice a n c) (.slice none n' c')).run Tryz.prog w = .ok (.bool a.isNone) w := fun w a n c n' c' => Lib.run_eql_slice_nil w _ _ a n c n' c' Tryz.underlying39
  cases p with
  | none =>
    have h0 : al = [] := by
      cases al with
      | nil => rfl
      | cons a r => obtain ⟨b, o, e, _⟩ := hc 0 (by simp); simp at e
    subst h0
    have hn0 : n = 0 := by simpa using hn.symm
    subst hn0
    clear hc hn
    go_enter Tryz.func92, Tryz.ntmps92
    go_wp2_with fail
    go_ret
    exact ⟨⟨none, 0, rfl, Nat.le_refl _, fun j hj => absurd hj (by simp)⟩, Below.refl _ _⟩
  | some a =>
    have hsp : al = [] ∨ ∃ b o, a = ⟨b, o, none⟩ := by
      cases al with
      | nil => exact .inl rfl
      | cons x r => obtain ⟨b, o, e, _⟩ := hc 0 (by simp); exact .inr ⟨b, o, by simpa using e⟩
    have hN1 : 0 + n ≤ maxLen := by unfold maxLen; omega
    have hN2 : (0 + n) * by0 ≤ 140737488355328 := Nat.le_trans (Nat.mul_le_mul (show 0 + n ≤ 4194304 by omega) hbl) (by omega)
    have HN := Lib.hid (And.intro hN1 hN2); clear hN1 hN2
    have hcs : ∀ (j : Nat) (u : Value), (attrCells al)[j]? = some u → w.cell? (a.add j) = some u := by
      rcases hsp with rfl | ⟨b, o, rfl⟩
      · intro j u hj; simp [attrCells] at hj
      · exact attrsF_cells hc
    have hlen : (attrCells al).length = n * 2 := by rw [attrCells_len, hn]
    have HC := Lib.hid (And.intro hcs (And.intro hlen hn)); clear hcs hlen hn hc hsp
    go_enter Tryz.func92, Tryz.ntmps92
    go_wp2_with (first
      | (at_builtin; refine wpList_append_own_at _ rfl (.tmp 5) (.tmp 6) 39 rfl w.heap.size 58 i0 z0 2 by0 Tryz.underlying39 IM.out.1 IM.out.2.1 IM.out.2.2.1 IM.out.2.2.2.1 IM.out.2.2.2.2 (by decide) (.slice (some ⟨w.heap.size, 0, none⟩) 0 0) 0 [] rfl (own_new0 w w.heap.size _ 2 (Nat.le_refl _)) a n c (attrCells al) rfl HC.out.2.1 ?c1 ?c2 ?c3 ?c4 ?c5 ?_))
    case c1 =>
      intro j u hj
      have h1 := HC.out.1 j u hj
      exact (((Below.refl w.heap.size w).alloc (Nat.le_refl _) _).cell (p := a.add j) (World.block_lt_of_cell? w _ h1)).trans h1
    case c2 => exact attrCells_one al
    case c3 => exact HN.out.1
    case c4 => exact HN.out.2
    case c5 => simp
    intro v5 w5 hown hgrow _ _
    have hown2 : w5.ownsRow w.heap.size 58 2 v5 al.length (attrCells al) := by
      rw [HC.out.2.2]; simpa using hown
    have hb5 : Below w.heap.size w w5 := ((Below.refl _ w).alloc (Nat.le_refl _) _).trans (own_grow (own_new0 w w.heap.size _ 2 (Nat.le_refl _)) hgrow (Nat.le_refl _) (by simp))
    have hfin : ∃ p' c', v5 = .slice p' n c' ∧ n ≤ c' ∧ AttrsQ w5 (fun g => w.heap.size ≤ g) p' al := by
      rw [← HC.out.2.2]
      rcases hown2.2 with ⟨hv, h0⟩ | ⟨g, cap, cur, hv, hbg, hg, hcap, _⟩
      · have h0' : al = [] := List.eq_nil_of_length_eq_zero h0
        subst h0'
        exact ⟨none, 0, hv, Nat.le_refl _, fun j hj => absurd hj (by simp)⟩
      · refine ⟨_, cap, hv, hcap, fun j hj => ⟨g, 0, rfl, hbg, ?_⟩⟩
        rw [hv] at hown2
        have h2 := attrCells_at al j hj
        obtain ⟨L, hL⟩ : ∃ L, al.length = L + 1 := ⟨al.length - 1, by omega⟩
        rw [hL] at hown2
        have k0 := own_cells hown2 _ _ h2.1
        have k1 := own_cells hown2 _ _ h2.2
        rw [adr_add] at k0 k1
        exact ⟨k0, by rw [Nat.add_assoc]; exact k1⟩
    have HF := Lib.hid (And.intro hfin hb5); clear hfin hb5 hown hown2 hgrow
    go_wp2_with fail
    go_ret
    obtain ⟨p', c', rfl, h1, h2⟩ := HF.out.1
    exact ⟨⟨p', c', rfl, h1, h2⟩, HF.out.2⟩
end Go.Proofs.YtcicibeggkmlcaaGreatDoor

namespace Go.Proofs.YtcicibeggkmlcaaGreatDoor
open Go.RowKit Go.Sof

/-- the copy in its loop: box b, result's cell r, the attributes' row below B1, the kids' row from B1 on. -/
structure CI (w : World) (b r B1 : Nat) (N : Bytes) (P : Int) (pa : Option Addr) (ca : Nat) (ats : List PAttr) (vk : Value) (T : Bytes) (wr : World) (done : List PNode) (kv : Value) (xs : List Value) : Prop where
  nd : Nd5 wr b N P (.slice pa ats.length ca) vk T
  rd : Nd5 wr r [] 0 (.slice none 0 0) (.slice none 0 0) []
  at' : AttrsQ wr (fun g => r < g ∧ g < B1) pa ats
  own : wr.ownsRow B1 47 5 kv done.length xs
  kx : KidsX wr (fun g => B1 ≤ g ∧ some g ≠ kv.ownBlock) done xs
  low : Below w.heap.size w wr
  sz : B1 ≤ wr.heap.size
  o1 : w.heap.size ≤ b
  o2 : b < r
  o3 : r < B1
section
variable {w : World} {b r B1 : Nat} {N : Bytes} {P : Int} {pa : Option Addr} {ca : Nat} {ats : List PAttr} {vk : Value} {T : Bytes} {wr : World} {done : List PNode} {kv : Value} {xs : List Value}
theorem CI.below (h : CI w b r B1 N P pa ca ats vk T wr done kv xs) {wz : World} (hb : Below wr.heap.size wr wz) : CI w b r B1 N P pa ca ats vk T wz done kv xs :=
  ⟨h.nd.below hb, h.rd.below hb, h.at'.move (fun g hq hg => ⟨hb.block g hg, hq⟩), ownsRow_below h.own hb, h.kx.move (fun g hq hg => ⟨hb.block g hg, hq⟩), h.low.trans (hb.mono h.low.size), Nat.le_trans h.sz hb.size, h.o1, h.o2, h.o3⟩
theorem CI.push (h : CI w b r B1 N P pa ca ats vk T wr done kv xs) {w4 w5 : World} {v' : Value} {kid : PNode} {u0 u1 u2 u3 u4 : Value} (hA : Below wr.heap.size wr w4) (hg : w4.grownBy w5 kv.ownBlock)
    (hown : w5.ownsRow B1 47 5 v' (done.length + 1) (xs ++ [u0, u1, u2, u3, u4])) (hb : v'.ownBlock = kv.ownBlock ∨ v'.ownBlock = some w4.heap.size)
    (hn : NodeR wr (fun g => B1 ≤ g ∧ some g ≠ kv.ownBlock) (.agg #[u0, u1, u2, u3, u4]) kid) : CI w b r B1 N P pa ca ats vk T w5 (done ++ [kid]) v' (xs ++ [u0, u1, u2, u3, u4]) := by
  have e1 := h.o1; have e2 := h.o2; have e3 := h.o3
  have hne : ∀ g, g < wr.heap.size → some g ≠ kv.ownBlock → w5.heap[g]? = wr.heap[g]? := fun g h1 h2 => by
    rw [hg.block g (Nat.lt_of_lt_of_le h1 hA.size) h2]; exact hA.block g h1
  have hlow : ∀ g, g < B1 → some g ≠ kv.ownBlock := fun g h1 e => by have := (own_block h.own g e.symm).1; omega
  have hmv : ∀ g, (B1 ≤ g ∧ some g ≠ kv.ownBlock) → g < wr.heap.size → w5.heap[g]? = wr.heap[g]? ∧ (B1 ≤ g ∧ some g ≠ v'.ownBlock) := by
    intro g hq hgl
    refine ⟨hne g hgl hq.2, hq.1, ?_⟩
    rcases hb with hb | hb
    · rw [hb]; exact hq.2
    · rw [hb]; intro e; simp only [Option.some.injEq] at e; have := hA.size; omega
  refine ⟨(hne b h.nd.lt (hlow b (by omega))).trans h.nd, (hne r h.rd.lt (hlow r (by omega))).trans h.rd, h.at'.move (fun g hq hgl => ⟨hne g hgl (hlow g hq.2), hq⟩), by rw [List.length_append]; exact hown, (h.kx.move hmv).snoc (hn.move hmv),
    ⟨hg.os.trans (hA.os.trans h.low.os), hg.tape.trans (hA.tape.trans h.low.tape), hg.output.trans (hA.output.trans h.low.output), Nat.le_trans h.low.size (Nat.le_trans hA.size hg.size), fun g hgl => (hne g (Nat.lt_of_lt_of_le hgl h.low.size) (hlow g (by omega))).trans (h.low.block g hgl)⟩, Nat.le_trans h.sz (Nat.le_trans hA.size hg.size), e1, e2, e3⟩
/-- what a kid that was just copied is. -/
theorem CI.kid (h : CI w b r B1 N P pa ca ats vk T wr done kv xs) {w2 : World} {v : Value} {kid : PNode} (hn : NodeR w2 (fun g => wr.heap.size ≤ g) v kid) : NodeR w2 (fun g => B1 ≤ g ∧ some g ≠ kv.ownBlock) v kid :=
  hn.move (fun g hq _ => ⟨rfl, Nat.le_trans h.sz hq, fun e => by
    obtain ⟨_, cur, h2⟩ := own_block h.own g e.symm
    have := (Array.getElem?_eq_some_iff.1 h2).1
    omega⟩)
end
/- the plan: box of n at b = w.heap.size, result's cell at r = b + 1; aclone_c gives the attributes' row (blocks ≥ b + 2), stored into ⟨b, 2⟩; the row of kids is the call's own with base = the heap's size behind aclone_c,
   so that neither the attributes' row nor b, r is touched by its growth; KidsX with Q g = b + 2 ≤ g ∧ some g ≠ kv.ownBlock. At the end ⟨b, 3⟩ := kids, load b, store r (set5), return. -/
set_option maxRecDepth 1000000 in
set_option maxHeartbeats 8000000 in
theorem clone_c (w0 : World) (Q : Nat → Prop) : ∀ (dd : Nat) (n : PNode) (v : Value), NodeD w0 Q dd v n → tsize n ≤ 4194304 → asize n ≤ 4194304 → ∀ (w : World), Below w0.heap.size w0 w →
    Calls Tryz.prog 70 #[v] w fun en w' => (∃ pa ca pk ck, en = .returned (nodeV n pa ca pk ck) ∧ NodeR w' (fun g => w.heap.size ≤ g) (nodeV n pa ca pk ck) n) ∧ Below w.heap.size w w' := by
  intro dd
  induction dd with
  | zero => intro n v h; exact False.elim h
  | succ dd ih =>
    intro n v h hz hza w hlow
    obtain ⟨pa, ca, pk, ck, rfl, hca, hck, hA, hK⟩ := h
    obtain ⟨nm, ps, ats, ks, tx⟩ := n
    simp only [PNode.kids, PNode.attrs] at hca hck hA hK
    have hz2 : tsize (.mk nm ps ats ks tx) = 1 + tsizeL ks := by rw [tsize]
    have hz3 : asize (.mk nm ps ats ks tx) = ats.length + asizeL ks := by rw [asize]
    have hkl := tsizeL_len ks
    have hks : ∀ k ∈ ks, tsize k ≤ 4194304 ∧ asize k ≤ 4194304 := fun k hk => by have := tsizeL_mem ks k hk; have := asizeL_mem ks k hk; omega
    obtain ⟨c, hc⟩ : ∃ c, c = ks.length := ⟨_, rfl⟩
    obtain ⟨al, hal⟩ : ∃ al, ats.length = al := ⟨_, rfl⟩
    have hall : al ≤ 4194304 := by omega
    have hcl : c ≤ 4194304 := by omega
    have hbW : Below w.heap.size w ((w.alloc (.cells #[.string ⟨nm.toArray⟩, .int .i64 ps, .slice pa al ca, .slice pk c ck, .string ⟨tx.toArray⟩] 47)).alloc (.cells #[.string ⟨#[]⟩, .int .i64 0, .slice none 0 0, .slice none 0 0, .string ⟨#[]⟩] 47)) := ((Below.refl _ w).alloc (Nat.le_refl _) _).alloc (by simp) _
    have hAF : AttrsF ((w.alloc (.cells #[.string ⟨nm.toArray⟩, .int .i64 ps, .slice pa al ca, .slice pk c ck, .string ⟨tx.toArray⟩] 47)).alloc (.cells #[.string ⟨#[]⟩, .int .i64 0, .slice none 0 0, .slice none 0 0, .string ⟨#[]⟩] 47)) pa ats := (hA.flat.below hlow).below hbW
    have hac := aclone_c ((w.alloc (.cells #[.string ⟨nm.toArray⟩, .int .i64 ps, .slice pa al ca, .slice pk c ck, .string ⟨tx.toArray⟩] 47)).alloc (.cells #[.string ⟨#[]⟩, .int .i64 0, .slice none 0 0, .slice none 0 0, .string ⟨#[]⟩] 47)) pa al ca ats hal hall hAF
    have hE : Nd5 ((w.alloc (.cells #[.string ⟨nm.toArray⟩, .int .i64 ps, .slice pa al ca, .slice pk c ck, .string ⟨tx.toArray⟩] 47)).alloc (.cells #[.string ⟨#[]⟩, .int .i64 0, .slice none 0 0, .slice none 0 0, .string ⟨#[]⟩] 47)) w.heap.size nm ps (.slice pa al ca) (.slice pk c ck) tx := (Nd5.new w nm ps (.slice pa al ca) (.slice pk c ck) tx).below ((Below.refl _ _).alloc (Nat.le_refl _) _)
    have hR : Nd5 ((w.alloc (.cells #[.string ⟨nm.toArray⟩, .int .i64 ps, .slice pa al ca, .slice pk c ck, .string ⟨tx.toArray⟩] 47)).alloc (.cells #[.string ⟨#[]⟩, .int .i64 0, .slice none 0 0, .slice none 0 0, .string ⟨#[]⟩] 47)) (w.heap.size + 1) [] 0 (.slice none 0 0) (.slice none 0 0) [] := by
      have := Nd5.new (w.alloc (.cells #[.string ⟨nm.toArray⟩, .int .i64 ps, .slice pa al ca, .slice pk c ck, .string ⟨tx.toArray⟩] 47)) [] 0 (.slice none 0 0) (.slice none 0 0) []
      rw [show (w.alloc (.cells #[.string ⟨nm.toArray⟩, .int .i64 ps, .slice pa al ca, .slice pk c ck, .string ⟨tx.toArray⟩] 47)).heap.size = w.heap.size + 1 from by simp] at this
      exact this
    show Calls Tryz.prog 70 #[.agg #[.string ⟨nm.toArray⟩, .int .i64 ps, .slice pa ats.length ca, .slice pk ks.length ck, .string ⟨tx.toArray⟩]] w _
    rw [← hc, hal]
    have HFi := Lib.hid ih; have HFk := Lib.hid hK; have HFl := Lib.hid hlow; have HFs := Lib.hid hks; have HFc := Lib.hid (And.intro hc hal); have HA := Lib.hid (And.intro hac (And.intro hE (And.intro hR hbW)))
    clear ih hK hlow hks hac hE hR hbW hAF hA hz hza hz2 hz3 hkl hc hal
    go_enter Tryz.func70, Tryz.ntmps70
    go_wp2_with (first
      | (go_at_call 92; refine HA.out.1.mono ?_; rintro en w1 ⟨⟨p', c', rfl, hc', hAQ⟩, b1⟩; have h1 := HA.out.2.1.below b1; have h2 := HA.out.2.2.1.below b1; have q0 := h1.c0; have q1 := h1.c1; have q2 := h1.c2; have q3 := h1.c3; have q4 := h1.c4; have z2 := h1.fz 2; have r0 := h2.c0; have H1 := Lib.hid (And.intro h1 (And.intro h2 (And.intro hAQ b1))); clear h1 h2 hAQ b1))
    obtain ⟨wo, hwo⟩ : ∃ wo, wo = w1.setCell ⟨w.heap.size, 2, none⟩ (.slice p' al c') := ⟨_, rfl⟩
    rw [← hwo]
    have hs1 : w.heap.size + 2 ≤ w1.heap.size := by have := H1.out.2.2.2.size; simp at this; omega
    have hCI : CI w w.heap.size (w.heap.size + 1) w1.heap.size nm ps p' c' ats (.slice pk c ck) tx wo [] (.slice none 0 0) [] := by
      rw [hwo]
      refine ⟨?_, (heap_set_ne w1 2 _ (by omega)).trans H1.out.2.1, ?_, ⟨rfl, Or.inl ⟨rfl, rfl⟩⟩, rfl, ?_, by simp, Nat.le_refl _, by omega, by omega⟩
      · rw [HFc.out.2]; exact heap_setCell_same w1 w.heap.size 2 _ _ _ H1.out.1
      · exact H1.out.2.2.1.move (fun g hq hg => ⟨heap_set_ne w1 2 _ (by simp at hq; omega), by simp at hq; omega, hg⟩)
      · exact (HA.out.2.2.2.trans (H1.out.2.2.2.mono (by simp; omega))).setCell (p := ⟨w.heap.size, 2, none⟩) (Nat.le_refl _) _
    have HCI := Lib.hid hCI; clear hCI hwo q0 q1 q2 q3 q4 z2 r0
    obtain ⟨i0, z0, by0, hi0, hz0, hs0, hb0, hy0, hbl0⟩ := info_node
    have IM := Lib.hid (And.intro hi0 (And.intro hz0 (And.intro hs0 (And.intro hb0 hy0)))); clear hi0 hz0 hs0 hb0 hy0
    go_loopg [3, 13] c (fun g kv i wr => ∃ (k : Nat) (xs : List Value), k ≤ c ∧ g = c - k ∧ i = .int .i64 k ∧ CI w w.heap.size (w.heap.size + 1) w1.heap.size nm ps p' c' ats (.slice pk c ck) tx wr (ks.take k) kv xs)
    case atStart => exact ⟨0, [], Nat.zero_le _, rfl, rfl, by rw [List.take_zero]; exact HCI.out⟩
    case round =>
      obtain ⟨k, xs, hk, hg, rfl, hci⟩ := hrel
      have hlen : (ks.take k).length = k := by rw [List.length_take, ← HFc.out.1]; omega
      obtain ⟨po, co, rfl, hco⟩ := node_form hci.own
      rw [hlen] at hci hco ⊢
      by_cases hlt : k < c
      · have hka : k < ks.length := by rw [← HFc.out.1]; exact hlt
        have hkI : (k : Int) < (c : Int) := by omega
        obtain ⟨g1, o1, pa1, ca1, pk1, ck1, e, _, b0, b1, b2, b3, b4, hnd⟩ := HFk.out.get k hka
        subst e
        have hlw : Below w0.heap.size w0 wr := HFl.out.trans (hci.low.mono HFl.out.size)
        have a0 := cell_keep hlw b0; have a1 := cell_keep hlw b1; have a2 := cell_keep hlw b2; have a3 := cell_keep hlw b3; have a4 := cell_keep hlw b4
        clear b0 b1 b2 b3 b4
        have hks := HFs.out _ (List.getElem_mem hka)
        have htk : ks.take (k + 1) = ks.take k ++ [ks[k]'hka] := List.take_succ_eq_append_getElem hka
        have hcall := fun W hW => HFi.out _ _ hnd hks.1 hks.2 W hW
        unfold nodeV at hcall
        have hgl : g1 < wr.heap.size := World.block_lt_of_cell? wr _ a0
        generalize ks[k]'hka = kid at *
        have hN1 : k + 1 ≤ maxLen := by unfold maxLen; omega
        have hN2 : (k + 1) * by0 ≤ 140737488355328 := Nat.le_trans (Nat.mul_le_mul (show k + 1 ≤ 4194304 by omega) hbl0) (by omega)
        have HN := Lib.hid (And.intro hN1 hN2); have HG := Lib.hid (And.intro hci (And.intro htk (And.intro hlw hg))); have HC := Lib.hid hcall; clear hN1 hN2 hci htk hlw hg hcall hnd hks hlen
        go_wp2_with (first
          | (go_at_call 70; refine (HC.out _ (HG.out.2.2.1.alloc HG.out.2.2.1.size _)).mono ?_; rintro en w2 ⟨⟨pa3, ca3, pk3, ck3, rfl, hnr⟩, b2⟩; have hB2 : Below wr.heap.size wr w2 := ((Below.refl _ wr).alloc (Nat.le_refl _) _).trans (b2.mono (by simp)); have hci2 := HG.out.1.below hB2; have hkd := HG.out.1.kid (hnr.move (fun g hq _ => ⟨rfl, (by simp at hq; omega)⟩)); have HR := Lib.hid (And.intro hci2 hkd); clear hnr b2 hB2 hci2 hkd)
          | (at_builtin; refine wpList_append_own_at _ rfl (.tmp 17) (.tmp 20) 45 rfl w1.heap.size 47 i0 z0 5 by0 Tryz.underlying45 IM.out.1 IM.out.2.1 IM.out.2.2.1 IM.out.2.2.2.1 IM.out.2.2.2.2 (by decide) (.slice po k co) k xs rfl ?c0 ⟨w2.heap.size, 0, none⟩ 1 1 [.string ⟨kid.name.toArray⟩, .int .i64 kid.pos, .slice pa3 kid.attrs.length ca3, .slice pk3 kid.kids.length ck3, .string ⟨kid.text.toArray⟩] rfl rfl ?c1 ?c2 ?c3 ?c4 ?c5 ?_))

        case c0 => have ho := HR.out.1.own; rw [List.length_take, ← HFc.out.1, Nat.min_eq_left hk] at ho; exact ownsRow_below ho ((Below.refl _ w2).alloc (Nat.le_refl _) _)
        case c1 => intro j u hj; exact cells_new w2 #[.string ⟨kid.name.toArray⟩, .int .i64 kid.pos, .slice pa3 kid.attrs.length ca3, .slice pk3 kid.kids.length ck3, .string ⟨kid.text.toArray⟩] 47 j u hj
        case c2 => intro u hu; simp only [List.mem_cons, List.not_mem_nil, or_false] at hu; rcases hu with rfl | rfl | rfl | rfl | rfl <;> rfl
        case c3 => exact HN.out.1
        case c4 => exact HN.out.2
        case c5 => have := HR.out.1.sz; simp; omega
        intro v5 w5 hown5 hgrow5 _ hob5
        obtain ⟨g5, cap5, rfl⟩ := row_form hown5
        have hp5 := HR.out.1.push ((Below.refl _ w2).alloc (Nat.le_refl _) _) hgrow5 (by rw [List.length_take, ← HFc.out.1, Nat.min_eq_left hk]; exact hown5) (by simpa using hob5) HR.out.2
        rw [← HG.out.2.1] at hp5
        have HP5 := Lib.hid hp5; clear hp5 hown5 hgrow5 hob5
        go_wp2_with fail
        go_roundg (c - (k + 1))
        case measure => have := HG.out.2.2.2; omega
        case rel => exact ⟨k + 1, _, by omega, rfl, by go_num, HP5.out⟩
      · obtain rfl : k = c := by omega
        have hkI : decide ((k : Int) < (k : Int)) = false := by simp
        rw [HFc.out.1, List.take_length] at hci
        have q0 := hci.nd.c0; have q1 := hci.nd.c1; have q2 := hci.nd.c2; have q3 := hci.nd.c3; have q4 := hci.nd.c4; have z3 := hci.nd.fz 3
        have r0 := hci.rd.c0; have r1 := hci.rd.c1; have r2 := hci.rd.c2; have r3 := hci.rd.c3; have r4 := hci.rd.c4
        have g0 := hci.rd.fz 0; have g1 := hci.rd.fz 1; have g2 := hci.rd.fz 2; have g3 := hci.rd.fz 3; have g4 := hci.rd.fz 4
        have HQ := Lib.hid hci; clear hci hg
        go_wp2_with fail
        refine bodyPost_ret (by simp [results, Tryz.results70, go_sem, r0, r1, r2, r3, r4]; try rfl) rfl ?_
        obtain ⟨dk, hdk⟩ := kidsX_read (Q' := fun g => w1.heap.size ≤ g) (p := po) (c := co) HQ.out.own HQ.out.kx (fun g hq _ => hq.1) (fun g hg => hg)
        have hsz := HQ.out.sz
        have hat := HQ.out.at'
        have hlo := HQ.out.low
        obtain ⟨hc1, hal1⟩ := HFc.out
        subst hc1 hal1
        have hmv : ∀ (v0 v1 v2 v3 v4 : Value) (g : Nat), w.heap.size + 1 < g → (set5 (wr.setCell ⟨w.heap.size, 3, none⟩ (.slice po ks.length co)) (w.heap.size + 1) v0 v1 v2 v3 v4).heap[g]? = wr.heap[g]? := fun v0 v1 v2 v3 v4 g hg => by
          rw [heap_set5_ne _ _ _ _ _ _ (by omega), heap_set_ne _ _ _ (by omega)]
        refine ⟨⟨p', c', po, co, rfl, dk + 1, p', c', po, co, rfl, hc', hco, ?_, ?_⟩, ?_⟩
        · exact hat.move (fun g hq _ => ⟨hmv _ _ _ _ _ g hq.1, by omega⟩)
        · exact hdk.move (fun g hq _ => ⟨hmv _ _ _ _ _ g (by omega), by omega⟩) (fun v n h => h.move (fun g hq _ => ⟨hmv _ _ _ _ _ g (by omega), by omega⟩))
        · exact below_set5 (hlo.setCell (p := ⟨w.heap.size, 3, none⟩) (Nat.le_refl _) _) (by omega) _ _ _ _ _
end Go.Proofs.YtcicibeggkmlcaaGreatDoor

namespace Go.Proofs.YtcicibeggkmlcaaGreatDoor
open Go.RowKit Go.Sof

/-- the search in its loop: box b, the row of what is found from B1 on. -/
structure FI (w : World) (b B1 : Nat) (N : Bytes) (P : Int) (va vk : Value) (T : Bytes) (wr : World) (done : List PNode) (kv : Value) (xs : List Value) : Prop where
  nd : Nd5 wr b N P va vk T
  own : wr.ownsRow B1 47 5 kv done.length xs
  kx : KidsX wr (fun g => B1 ≤ g ∧ some g ≠ kv.ownBlock) done xs
  low : Below w.heap.size w wr
  sz : B1 ≤ wr.heap.size
  o1 : w.heap.size ≤ b
  o2 : b < B1
section
variable {w : World} {b B1 : Nat} {N : Bytes} {P : Int} {va vk : Value} {T : Bytes} {wr : World} {done : List PNode} {kv : Value} {xs : List Value}
theorem FI.below (h : FI w b B1 N P va vk T wr done kv xs) {wz : World} (hb : Below wr.heap.size wr wz) : FI w b B1 N P va vk T wz done kv xs :=
  ⟨h.nd.below hb, ownsRow_below h.own hb, h.kx.move (fun g hq hg => ⟨hb.block g hg, hq⟩), h.low.trans (hb.mono h.low.size), Nat.le_trans h.sz hb.size, h.o1, h.o2⟩
theorem FI.push (h : FI w b B1 N P va vk T wr done kv xs) {w4 w5 : World} {v' : Value} {kid : PNode} {u0 u1 u2 u3 u4 : Value} (hA : Below wr.heap.size wr w4) (hg : w4.grownBy w5 kv.ownBlock)
    (hown : w5.ownsRow B1 47 5 v' (done.length + 1) (xs ++ [u0, u1, u2, u3, u4])) (hb : v'.ownBlock = kv.ownBlock ∨ v'.ownBlock = some w4.heap.size)
    (hn : NodeR wr (fun g => B1 ≤ g ∧ some g ≠ kv.ownBlock) (.agg #[u0, u1, u2, u3, u4]) kid) : FI w b B1 N P va vk T w5 (done ++ [kid]) v' (xs ++ [u0, u1, u2, u3, u4]) := by
  have e1 := h.o1; have e2 := h.o2
  have hne : ∀ g, g < wr.heap.size → some g ≠ kv.ownBlock → w5.heap[g]? = wr.heap[g]? := fun g h1 h2 => by
    rw [hg.block g (Nat.lt_of_lt_of_le h1 hA.size) h2]; exact hA.block g h1
  have hlow : ∀ g, g < B1 → some g ≠ kv.ownBlock := fun g h1 e => by have := (own_block h.own g e.symm).1; omega
  have hmv : ∀ g, (B1 ≤ g ∧ some g ≠ kv.ownBlock) → g < wr.heap.size → w5.heap[g]? = wr.heap[g]? ∧ (B1 ≤ g ∧ some g ≠ v'.ownBlock) := by
    intro g hq hgl
    refine ⟨hne g hgl hq.2, hq.1, ?_⟩
    rcases hb with hb | hb
    · rw [hb]; exact hq.2
    · rw [hb]; intro e; simp only [Option.some.injEq] at e; have := hA.size; omega
  refine ⟨(hne b h.nd.lt (hlow b (by omega))).trans h.nd, by rw [List.length_append]; exact hown, (h.kx.move hmv).snoc (hn.move hmv),
    ⟨hg.os.trans (hA.os.trans h.low.os), hg.tape.trans (hA.tape.trans h.low.tape), hg.output.trans (hA.output.trans h.low.output), Nat.le_trans h.low.size (Nat.le_trans hA.size hg.size), fun g hgl => (hne g (Nat.lt_of_lt_of_le hgl h.low.size) (hlow g (by omega))).trans (h.low.block g hgl)⟩, Nat.le_trans h.sz (Nat.le_trans hA.size hg.size), e1, e2⟩
theorem FI.kid (h : FI w b B1 N P va vk T wr done kv xs) {w2 : World} {v : Value} {kid : PNode} (hn : NodeR w2 (fun g => wr.heap.size ≤ g) v kid) : NodeR w2 (fun g => B1 ≤ g ∧ some g ≠ kv.ownBlock) v kid :=
  hn.move (fun g hq _ => ⟨rfl, Nat.le_trans h.sz hq, fun e => by
    obtain ⟨_, cur, h2⟩ := own_block h.own g e.symm
    have := (Array.getElem?_eq_some_iff.1 h2).1
    omega⟩)
end

set_option maxRecDepth 1000000 in
set_option maxHeartbeats 8000000 in
theorem find_c (w0 : World) (Q : Nat → Prop) (dd : Nat) (n : PNode) (v : Value) (hn : NodeD w0 Q dd v n) (hz : tsize n ≤ 4194304) (hza : asize n ≤ 4194304) (w : World) (hlow : Below w0.heap.size w0 w) (nm : Bytes) :
    Calls Tryz.prog 41 #[v, .string ⟨nm.toArray⟩] w fun en w' => (∃ pf cf d, en = .returned (.slice pf (filtN n.kids nm).length cf) ∧ KidsD w' (fun g => w.heap.size ≤ g) (NodeD w' (fun g => w.heap.size ≤ g) d) pf (filtN n.kids nm)) ∧ Below w.heap.size w w' := by
  have hd1 : ∃ d, dd = d + 1 := by cases dd with
    | zero => exact False.elim hn
    | succ d => exact ⟨d, rfl⟩
  obtain ⟨d, rfl⟩ := hd1
  obtain ⟨pa, ca, pk, ck, rfl, hca, hck, hA, hK⟩ := hn
  obtain ⟨N, ps, ats, ks, tx⟩ := n
  simp only [PNode.kids, PNode.attrs] at hca hck hA hK ⊢
  have hz2 : tsize (.mk N ps ats ks tx) = 1 + tsizeL ks := by rw [tsize]
  have hz3 : asize (.mk N ps ats ks tx) = ats.length + asizeL ks := by rw [asize]
  have hkl := tsizeL_len ks
  have hks : ∀ k ∈ ks, tsize k ≤ 4194304 ∧ asize k ≤ 4194304 := fun k hk => by have := tsizeL_mem ks k hk; have := asizeL_mem ks k hk; omega
  obtain ⟨c, hc⟩ : ∃ c, c = ks.length := ⟨_, rfl⟩
  obtain ⟨al, hal⟩ : ∃ al, ats.length = al := ⟨_, rfl⟩
  have hcl : c ≤ 4194304 := by omega
  show Calls Tryz.prog 41 #[.agg #[.string ⟨N.toArray⟩, .int .i64 ps, .slice pa ats.length ca, .slice pk ks.length ck, .string ⟨tx.toArray⟩], .string ⟨nm.toArray⟩] w _
  rw [← hc, hal]
  have HFk := Lib.hid hK; have HFl := Lib.hid hlow; have HFs := Lib.hid hks; have HFc := Lib.hid hc
  clear hK hlow hks hA hz hza hz2 hz3 hkl hc hal hca
  go_enter Tryz.func41, Tryz.ntmps41
  go_wp2_with fail
  obtain ⟨wo, hwo⟩ : ∃ wo, wo = w.alloc (.cells #[.string ⟨N.toArray⟩, .int .i64 ps, .slice pa al ca, .slice pk c ck, .string ⟨tx.toArray⟩] 47) := ⟨_, rfl⟩
  rw [← hwo]
  have hFI : FI w w.heap.size (w.heap.size + 1) N ps (.slice pa al ca) (.slice pk c ck) tx wo [] (.slice none 0 0) [] := by
    rw [hwo]
    exact ⟨Nd5.new w N ps _ _ tx, ⟨rfl, Or.inl ⟨rfl, rfl⟩⟩, rfl, (Below.refl _ w).alloc (Nat.le_refl _) _, by simp, Nat.le_refl _, by omega⟩
  have HFI := Lib.hid hFI; clear hFI hwo
  obtain ⟨i0, z0, by0, hi0, hz0, hs0, hb0, hy0, hbl0⟩ := info_node
  have IM := Lib.hid (And.intro hi0 (And.intro hz0 (And.intro hs0 (And.intro hb0 hy0)))); clear hi0 hz0 hs0 hb0 hy0
  go_loopg [5, 11] c (fun g kv i wr => ∃ (k : Nat) (xs : List Value), k ≤ c ∧ g = c - k ∧ i = .int .i64 k ∧ FI w w.heap.size (w.heap.size + 1) N ps (.slice pa al ca) (.slice pk c ck) tx wr (filtN (ks.take k) nm) kv xs)
  case atStart => exact ⟨0, [], Nat.zero_le _, rfl, rfl, by rw [List.take_zero]; exact HFI.out⟩
  case round =>
    obtain ⟨k, xs, hk, hg, rfl, hfi⟩ := hrel
    obtain ⟨L, hL⟩ : ∃ L, L = (filtN (ks.take k) nm).length := ⟨_, rfl⟩
    have hLk : L ≤ k := by rw [hL]; exact Nat.le_trans (filt_le _ _) (by rw [List.length_take]; exact Nat.min_le_left _ _)
    obtain ⟨po, co, rfl, hco⟩ := node_form hfi.own
    rw [← hL] at hfi hco ⊢
    have c3 := hfi.nd.c3
    by_cases hlt : k < c
    · have hka : k < ks.length := by rw [← HFc.out]; exact hlt
      have hkI : (k : Int) < (c : Int) := by omega
      obtain ⟨g1, o1, pa1, ca1, pk1, ck1, e, _, b0, b1, b2, b3, b4, hnd⟩ := HFk.out.get k hka
      subst e
      have hlw : Below w0.heap.size w0 wr := HFl.out.trans (hfi.low.mono HFl.out.size)
      have a0 := cell_keep hlw b0; have a1 := cell_keep hlw b1; have a2 := cell_keep hlw b2; have a3 := cell_keep hlw b3; have a4 := cell_keep hlw b4
      clear b0 b1 b2 b3 b4
      have hks := HFs.out _ (List.getElem_mem hka)
      have hgl : g1 < wr.heap.size := World.block_lt_of_cell? wr _ a0
      by_cases hN : (ks[k]'hka).name = nm
      · have htk := filt_hit hka hN
        have hcall := fun W hW => clone_c w0 Q _ _ _ hnd hks.1 hks.2 W hW
        unfold nodeV at hcall
        rw [hN] at a0
        generalize ks[k]'hka = kid at *
        subst hN
        have hN1 : L + 1 ≤ maxLen := by unfold maxLen; omega
        have hN2 : (L + 1) * by0 ≤ 140737488355328 := Nat.le_trans (Nat.mul_le_mul (show L + 1 ≤ 4194304 by omega) hbl0) (by omega)
        have HN := Lib.hid (And.intro hN1 hN2); have HG := Lib.hid (And.intro hfi (And.intro htk (And.intro hlw (And.intro hg hL)))); have HC := Lib.hid hcall; clear hN1 hN2 hfi htk hlw hg hcall hnd hks hL
        go_wp2_with (first
          | (go_at_call 70; refine (HC.out _ (HG.out.2.2.1.alloc HG.out.2.2.1.size _)).mono ?_; rintro en w2 ⟨⟨pa3, ca3, pk3, ck3, rfl, hnr⟩, b2⟩; have hB2 : Below wr.heap.size wr w2 := ((Below.refl _ wr).alloc (Nat.le_refl _) _).trans (b2.mono (by simp)); have hfi2 := HG.out.1.below hB2; have hkd := HG.out.1.kid (hnr.move (fun g hq _ => ⟨rfl, (by simp at hq; omega)⟩)); have HR := Lib.hid (And.intro hfi2 hkd); clear hnr b2 hB2 hfi2 hkd)
          | (at_builtin; refine wpList_append_own_at _ rfl (.tmp 19) (.tmp 22) 45 rfl (w.heap.size + 1) 47 i0 z0 5 by0 Tryz.underlying45 IM.out.1 IM.out.2.1 IM.out.2.2.1 IM.out.2.2.2.1 IM.out.2.2.2.2 (by decide) (.slice po L co) L xs rfl ?c0 ⟨w2.heap.size, 0, none⟩ 1 1 [.string ⟨kid.name.toArray⟩, .int .i64 kid.pos, .slice pa3 kid.attrs.length ca3, .slice pk3 kid.kids.length ck3, .string ⟨kid.text.toArray⟩] rfl rfl ?c1 ?c2 ?c3 ?c4 ?c5 ?_))
        case c0 => have ho := HR.out.1.own; rw [← HG.out.2.2.2.2] at ho; exact ownsRow_below ho ((Below.refl _ w2).alloc (Nat.le_refl _) _)
        case c1 => intro j u hj; exact cells_new w2 #[.string ⟨kid.name.toArray⟩, .int .i64 kid.pos, .slice pa3 kid.attrs.length ca3, .slice pk3 kid.kids.length ck3, .string ⟨kid.text.toArray⟩] 47 j u hj
        case c2 => intro u hu; simp only [List.mem_cons, List.not_mem_nil, or_false] at hu; rcases hu with rfl | rfl | rfl | rfl | rfl <;> rfl
        case c3 => exact HN.out.1
        case c4 => exact HN.out.2
        case c5 => have := HR.out.1.sz; simp; omega
        intro v5 w5 hown5 hgrow5 _ hob5
        obtain ⟨g5, cap5, rfl⟩ := row_form hown5
        have hp5 := HR.out.1.push ((Below.refl _ w2).alloc (Nat.le_refl _) _) hgrow5 (by rw [← HG.out.2.2.2.2]; exact hown5) (by simpa using hob5) HR.out.2
        rw [← HG.out.2.1] at hp5
        have HP5 := Lib.hid hp5; clear hp5 hown5 hgrow5 hob5
        go_wp2_with fail
        go_roundg (c - (k + 1))
        case measure => have := HG.out.2.2.2.1; omega
        case rel => exact ⟨k + 1, _, by omega, rfl, by go_num, HP5.out⟩
      · have htk := filt_skip hka hN
        have hNb : ((ks[k]'hka).name == nm) = false := by rw [beq_eq_false_iff_ne]; exact hN
        generalize ks[k]'hka = kid at *
        have HG := Lib.hid (And.intro hfi (And.intro htk (And.intro hlw (And.intro hg hL)))); clear hfi htk hlw hg hnd hks hL hN
        go_wp2_with fail
        go_roundg (c - (k + 1))
        case measure => have := HG.out.2.2.2.1; omega
        case rel => exact ⟨k + 1, xs, by omega, rfl, by go_num, by rw [HG.out.2.1]; exact HG.out.1.below ((Below.refl _ wr).alloc (Nat.le_refl _) _)⟩
    · obtain rfl : k = c := by omega
      have hkI : decide ((k : Int) < (k : Int)) = false := by simp
      rw [HFc.out, List.take_length] at hfi hL
      have HQ := Lib.hid (And.intro hfi hL); clear hfi hg hL
      go_wp2_with fail
      go_ret
      obtain ⟨hfi, hL⟩ := HQ.out
      subst hL
      obtain ⟨dk, hdk⟩ := kidsX_read (Q' := fun g => w.heap.size ≤ g) hfi.own hfi.kx (fun g hq _ => by omega) (fun g hg => by omega)
      exact ⟨⟨po, co, dk, rfl, hdk⟩, hfi.low⟩
end Go.Proofs.YtcicibeggkmlcaaGreatDoor
