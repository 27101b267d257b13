/- The walk of tree.Text. Conditions: the tables lie as they are laid; the tree lies in memory and is no greater than a bulk. The walk of the reference's marks of a tree. Conditions: the tree lies in memory. The walk of the reference's Text of a tree. Conditions: the tree lies in memory, has at most 500 elements and is no greater than a bulk. -/
import Derived.Test.YtcicibeggkmlcaaGreatDoorTrC
import Derived.Test.YtcicibeggkmlcaaGreatDoorTxG
namespace Go.Proofs.YtcicibeggkmlcaaGreatDoor
open Go.RowKit Go.Sof

theorem ML.read {w0 w : World} {A : Nat} {out : Value} {xs : List Value} {ms : List PMark} (h : ML w0 w A out xs ms) : ∃ p c, out = .slice p ms.length c ∧ MarksC w p ms := by
  obtain ⟨p, c, rfl, _⟩ := h.form
  exact ⟨p, c, rfl, marksX_read h.2.2.2.1 h.2.1 h.2.2.1⟩

/-- how great a tree may be. -/
def NdSz (n : PNode) : Prop := tsize n ≤ 262144 ∧ ∀ d k l, tmk n d k = some l → ∀ m ∈ l, MkSz m

set_option maxRecDepth 1000000 in
set_option maxHeartbeats 4000000 in
theorem ttext_c (w0 : World) (Q : Nat → Prop) (dd : Nat) (n : PNode) (v : Value) (hn : NodeD w0 Q dd v n) (hz : NdSz n) (w : World) (hlow : Below w0.heap.size w0 w) (hw : WOK w) (X : Except Int Bytes) (hX : textT n = X) :
    Calls Tryz.prog 35 #[v] w fun en w' => TextPost X en ∧ Below w.heap.size w w' := by
  have hd1 : ∃ d, dd = d + 1 := by cases dd with
    | zero => exact False.elim hn
    | succ d => exact ⟨d, rfl⟩
  obtain ⟨d, rfl⟩ := hd1
  have hn0 := hn
  obtain ⟨pa, ca, pk, ck, hv, _, _, _, _⟩ := hn0
  subst hv
  unfold nodeV at hn ⊢
  have hmk := fun W A out xs ms (h : ML w0 W A out xs ms) (hl : ms.length + 3 * tsize n ≤ 4194304) => tmarks_c w0 Q _ n _ hn W A out xs ms 1 h (by omega) hl
  have hsz := fun W hW => size_c w0 Q _ n _ hn (by have := hz.1; omega) W hW
  generalize n.name = N at *
  generalize n.pos = P at *
  obtain ⟨al, hal⟩ : ∃ k, k = n.attrs.length := ⟨_, rfl⟩
  obtain ⟨kl, hkl⟩ : ∃ k, k = n.kids.length := ⟨_, rfl⟩
  rw [← hal, ← hkl] at hmk hsz ⊢
  generalize n.text = T at *
  unfold textT at hX
  have hsz1 : (w.alloc (.cells #[.string ⟨N.toArray⟩, .int .i64 P, .slice pa al ca, .slice pk kl ck, .string ⟨T.toArray⟩] 47)).heap.size = w.heap.size + 1 := by simp
  have hbW : Below w.heap.size w ((w.alloc (.cells #[.string ⟨N.toArray⟩, .int .i64 P, .slice pa al ca, .slice pk kl ck, .string ⟨T.toArray⟩] 47)).alloc (.cells #[.slice none 0 0] 35)) := ((Below.refl _ w).alloc (Nat.le_refl _) _).alloc (by simp) _
  have hML : ML w0 ((w.alloc (.cells #[.string ⟨N.toArray⟩, .int .i64 P, .slice pa al ca, .slice pk kl ck, .string ⟨T.toArray⟩] 47)).alloc (.cells #[.slice none 0 0] 35)) (w.heap.size + 1) (.slice none 0 0) [] [] := by
    refine ⟨?_, ⟨rfl, Or.inl ⟨rfl, rfl⟩⟩, rfl, hlow.trans (hbW.mono hlow.size), by have := hlow.size; omega⟩
    have := heap_alloc_new (w.alloc (.cells #[.string ⟨N.toArray⟩, .int .i64 P, .slice pa al ca, .slice pk kl ck, .string ⟨T.toArray⟩] 47)) (.cells #[.slice none 0 0] 35)
    rw [hsz1] at this
    exact this
  have hE : Nd5 ((w.alloc (.cells #[.string ⟨N.toArray⟩, .int .i64 P, .slice pa al ca, .slice pk kl ck, .string ⟨T.toArray⟩] 47)).alloc (.cells #[.slice none 0 0] 35)) w.heap.size N P (.slice pa al ca) (.slice pk kl ck) T := (Nd5.new w N P (.slice pa al ca) (.slice pk kl ck) T).below ((Below.refl _ _).alloc (Nat.le_refl _) _)
  have hcall : Calls Tryz.prog 61 #[.agg #[.string ⟨N.toArray⟩, .int .i64 P, .slice pa al ca, .slice pk kl ck, .string ⟨T.toArray⟩], .int .i64 1, .pointer (some ⟨w.heap.size + 1, 0, none⟩)] ((w.alloc (.cells #[.string ⟨N.toArray⟩, .int .i64 P, .slice pa al ca, .slice pk kl ck, .string ⟨T.toArray⟩] 47)).alloc (.cells #[.slice none 0 0] 35)) fun en w' => TMPost w0 ((w.alloc (.cells #[.string ⟨N.toArray⟩, .int .i64 P, .slice pa al ca, .slice pk kl ck, .string ⟨T.toArray⟩] 47)).alloc (.cells #[.slice none 0 0] 35)) (w.heap.size + 1) (.slice none 0 0) [] (tmk n 1 0) en w' :=
    hmk _ _ _ [] [] hML (by have := hz.1; simp only [List.length_nil]; omega)
  have hWs : ((w.alloc (.cells #[.string ⟨N.toArray⟩, .int .i64 P, .slice pa al ca, .slice pk kl ck, .string ⟨T.toArray⟩] 47)).alloc (.cells #[.slice none 0 0] 35)).heap.size = w.heap.size + 2 := by simp
  have HA := Lib.hid (And.intro hbW (And.intro hE (And.intro hlow (And.intro hWs hw)))); clear hmk hbW hE hsz1 hML hlow hw hal hkl hn hWs
  cases htm : tmk n 1 0 with
  | none =>
    rw [htm] at hX hcall
    have hX : .error 2 = X := hX
    subst hX
    have HC := Lib.hid hcall; clear hcall hsz htm hz
    go_enter Tryz.func35, Tryz.ntmps35
    go_wp2_with (first
      | (go_at_call 61; refine HC.out.mono ?_; rintro en w1 ⟨rfl, b1⟩))
    go_ret2
    exact ⟨rfl, HA.out.1.trans (b1.mono (by omega))⟩
  | some l =>
    rw [htm] at hX hcall
    have hlen := (tmk_len n _ _ _ htm).1
    have hmz := hz.2 _ _ _ htm
    have hz1 := hz.1
    have hX : (if 4096 < sizeC n then .error 2 else textP l) = X := hX
    obtain ⟨sc, hsc⟩ : ∃ k, k = sizeC n := ⟨_, rfl⟩
    have hsle : sc ≤ 262144 := by rw [hsc]; have := sizeC_le n; omega
    rw [← hsc] at hX hsz
    have hcall2 : Calls Tryz.prog 61 #[.agg #[.string ⟨N.toArray⟩, .int .i64 P, .slice pa al ca, .slice pk kl ck, .string ⟨T.toArray⟩], .int .i64 1, .pointer (some ⟨w.heap.size + 1, 0, none⟩)] ((w.alloc (.cells #[.string ⟨N.toArray⟩, .int .i64 P, .slice pa al ca, .slice pk kl ck, .string ⟨T.toArray⟩] 47)).alloc (.cells #[.slice none 0 0] 35)) fun en w' => en = .returned (.bool true) ∧ ∃ p c, MarksC w' p l ∧ w'.cell? ⟨w.heap.size + 1, 0, none⟩ = some (.slice p l.length c) ∧ Below w.heap.size ((w.alloc (.cells #[.string ⟨N.toArray⟩, .int .i64 P, .slice pa al ca, .slice pk kl ck, .string ⟨T.toArray⟩] 47)).alloc (.cells #[.slice none 0 0] 35)) w' ∧ Nd5 w' w.heap.size N P (.slice pa al ca) (.slice pk kl ck) T := by
      refine hcall.mono ?_
      rintro en w' ⟨rfl, out', xs', hml, hg⟩
      obtain ⟨p, c, rfl, hC⟩ := hml.read
      rw [List.nil_append] at hC
      have h0 := hml.c0
      rw [List.nil_append] at h0
      exact ⟨rfl, p, c, hC, h0, hg.low.mono (by omega), HA.out.2.1.go2 hg (by omega) (by simp [Value.ownBlock])⟩
    have HC := Lib.hid hcall2; clear hcall hcall2
    by_cases hbig : 4096 < sc
    · rw [if_pos hbig] at hX
      subst hX
      have hI : (4096 : Int) < (sc : Int) := by omega
      have HS := Lib.hid hsz; clear hsz htm hz hmz hsc
      go_enter Tryz.func35, Tryz.ntmps35
      go_wp2_with (first
        | (go_at_call 61; refine HC.out.mono ?_; rintro en w1 ⟨rfl, p, c, hC, m0, b1, hE1⟩; have q0 := hE1.c0; have q1 := hE1.c1; have q2 := hE1.c2; have q3 := hE1.c3; have q4 := hE1.c4; have H1 := Lib.hid (And.intro hC b1); clear hC hE1)
        | (go_at_call 62; refine (HS.out _ (HA.out.2.2.1.trans ((HA.out.1.trans H1.out.2).mono HA.out.2.2.1.size))).mono ?_; rintro en w2 ⟨rfl, b2⟩))
      go_ret2
      exact ⟨rfl, (HA.out.1.trans H1.out.2).trans (b2.mono (HA.out.1.trans H1.out.2).size)⟩
    · rw [if_neg hbig] at hX
      have hI : (sc : Int) ≤ 4096 := by omega
      have htx := fun W p c (hW : WOK W) (hC : MarksC W p l) => text_c W p c l hW (by omega) hmz hC X hX
      obtain ⟨L, hL⟩ : ∃ L, L = l.length := ⟨_, rfl⟩
      rw [← hL] at htx HC
      have HS := Lib.hid hsz; have HT := Lib.hid htx; clear hsz htm hz hmz hsc htx hL hX
      have key : Calls Tryz.prog 35 #[.agg #[.string ⟨N.toArray⟩, .int .i64 P, .slice pa al ca, .slice pk kl ck, .string ⟨T.toArray⟩]] w fun en w' => TextPost X en ∧ Below w.heap.size w w' := by
        cases X with
        | ok t =>
          go_enter Tryz.func35, Tryz.ntmps35
          go_wp2_with (first
            | (go_at_call 61; refine HC.out.mono ?_; rintro en w1 ⟨rfl, p, c, hC, m0, b1, hE1⟩; have q0 := hE1.c0; have q1 := hE1.c1; have q2 := hE1.c2; have q3 := hE1.c3; have q4 := hE1.c4; have H1 := Lib.hid (And.intro hC b1); clear hC hE1)
            | (go_at_call 62; refine (HS.out _ (HA.out.2.2.1.trans ((HA.out.1.trans H1.out.2).mono HA.out.2.2.1.size))).mono ?_; rintro en w2 ⟨rfl, b2⟩; have m2 := cell_keep b2 m0; have hC2 := Lib.hid (H1.out.1.below b2))
            | (go_at_call 28; refine (HT.out _ _ _ (HA.out.2.2.2.2.below ((HA.out.1.trans H1.out.2).trans (b2.mono (HA.out.1.trans H1.out.2).size))) hC2.out).mono ?_; rintro en w3 ⟨rfl, b3⟩))
          go_ret2
          exact ⟨rfl, ((HA.out.1.trans H1.out.2).trans (b2.mono (HA.out.1.trans H1.out.2).size)).trans (b3.mono ((HA.out.1.trans H1.out.2).trans (b2.mono (HA.out.1.trans H1.out.2).size)).size)⟩
        | error x =>
          go_enter Tryz.func35, Tryz.ntmps35
          go_wp2_with (first
            | (go_at_call 61; refine HC.out.mono ?_; rintro en w1 ⟨rfl, p, c, hC, m0, b1, hE1⟩; have q0 := hE1.c0; have q1 := hE1.c1; have q2 := hE1.c2; have q3 := hE1.c3; have q4 := hE1.c4; have H1 := Lib.hid (And.intro hC b1); clear hC hE1)
            | (go_at_call 62; refine (HS.out _ (HA.out.2.2.1.trans ((HA.out.1.trans H1.out.2).mono HA.out.2.2.1.size))).mono ?_; rintro en w2 ⟨rfl, b2⟩; have m2 := cell_keep b2 m0; have hC2 := Lib.hid (H1.out.1.below b2))
            | (go_at_call 28; refine (HT.out _ _ _ (HA.out.2.2.2.2.below ((HA.out.1.trans H1.out.2).trans (b2.mono (HA.out.1.trans H1.out.2).size))) hC2.out).mono ?_; rintro en w3 ⟨rfl, b3⟩))
          go_ret2
          exact ⟨rfl, ((HA.out.1.trans H1.out.2).trans (b2.mono (HA.out.1.trans H1.out.2).size)).trans (b3.mono ((HA.out.1.trans H1.out.2).trans (b2.mono (HA.out.1.trans H1.out.2).size)).size)⟩
      exact key
end Go.Proofs.YtcicibeggkmlcaaGreatDoor

namespace Go.Proofs.YtcicibeggkmlcaaGreatDoor
open Go.RowKit Go.Sof

mutual
theorem rmk_le : ∀ (n : PNode) (d : Nat) (q : Int) (l : List PMark) (z : Int), rmk n d q = some (l, z) → 0 ≤ z ∧ (l.length : Int) ≤ 3 * (q - z) ∧ 1 ≤ l.length
  | .mk nm ps ats ks tx, d, q, l, z, h => by
    unfold rmk at h
    split at h
    · simp at h
    · next h0 =>
      split at h
      · simp only [Option.some.injEq, Prod.mk.injEq] at h; obtain ⟨rfl, rfl⟩ := h; simp; omega
      · split at h
        · simp at h
        · next l0 z0 h1 =>
          simp only [Option.some.injEq, Prod.mk.injEq] at h; obtain ⟨rfl, rfl⟩ := h
          have := rmkL_le ks _ _ _ _ h1
          simp only [List.length_cons, List.length_append]
          split <;> simp <;> omega
theorem rmkL_le : ∀ (ks : List PNode) (d : Nat) (q : Int) (l : List PMark) (z : Int), rmkL ks d q = some (l, z) → (0 ≤ q → 0 ≤ z) ∧ (l.length : Int) ≤ 3 * (q - z)
  | [], d, q, l, z, h => by simp only [rmkL, Option.some.injEq, Prod.mk.injEq] at h; obtain ⟨rfl, rfl⟩ := h; simp
  | n :: r, d, q, l, z, h => by
    unfold rmkL at h
    split at h
    · simp at h
    · next l1 z1 h1 =>
      split at h
      · simp at h
      · next l2 z2 h2 =>
        simp only [Option.some.injEq, Prod.mk.injEq] at h; obtain ⟨rfl, rfl⟩ := h
        have e1 := rmk_le n _ _ _ _ h1
        have e2 := rmkL_le r _ _ _ _ h2
        rw [List.length_append]
        refine ⟨fun _ => e2.1 e1.1, ?_⟩
        have := e2.2; have := e1.2.1
        push_cast; omega
end
theorem own_new (W : World) (B : Nat) (cs : Array Value) (t size : Nat) (hc : cs.size = size) (hB : B ≤ W.heap.size) (_ : 0 < size) : (W.alloc (.cells cs t)).ownsRow B t size (.slice (some ⟨W.heap.size, 0, none⟩) 1 1) 1 cs.toList := by
  refine ⟨by simp [hc], .inr ⟨W.heap.size, 1, cs, rfl, hB, heap_alloc_new W _, Nat.le_refl _, by unfold maxLen; omega, by omega, ?_⟩⟩
  rw [Nat.one_mul, ← hc, ← Array.length_toList, List.take_length]
theorem rmkL_none {m : PNode} {r : List PNode} {d : Nat} {q : Int} (h : rmk m d q = none) : rmkL (m :: r) d q = none := by rw [rmkL, h]
theorem rmkL_step {m : PNode} {r : List PNode} {d : Nat} {q z : Int} {l l2 : List PMark} (h : rmk m d q = some (l2, z)) : (rmkL (m :: r) d q).map (fun x => (l ++ x.1, x.2)) = (rmkL r d z).map (fun x => ((l ++ l2) ++ x.1, x.2)) := by
  rw [rmkL, h]
  simp only
  cases rmkL r d z with
  | none => rfl
  | some y => obtain ⟨a, b⟩ := y; simp
def wrapR (nm : Bytes) (ats : List PAttr) (tx : Bytes) (x : Option (List PMark × Int)) : Option (List PMark × Int) :=
  match x with
  | none => none
  | some (l, q) => some (⟨1, 0, nm, ats, []⟩ :: (l ++ ((if tx = [] then [] else [⟨3, 0, [], [], tx⟩]) ++ [⟨2, 0, nm, [], []⟩])), q)
/-- a row of marks of a call's own, its attributes in an older world. -/
def RL (w0 w : World) (B : Nat) (out : Value) (xs : List Value) (ms : List PMark) : Prop := w.ownsRow B 41 5 out ms.length xs ∧ MarksX w0 ms xs
def RMPost (w0 w : World) (x : Option (List PMark × Int)) (en : Ending) (w' : World) : Prop :=
  match x with
  | none => ∃ z : Int, en = .returned (.tuple #[.slice none 0 0, .int .i64 z, .bool false])
  | some (l, q) => ∃ out xs, en = .returned (.tuple #[out, .int .i64 q, .bool true]) ∧ RL w0 w' w.heap.size out xs l
theorem RMPost.no {w0 w w' : World} {x : Option (List PMark × Int)} {z : Int} (hx : x = none) : RMPost w0 w x (.returned (.tuple #[.slice none 0 0, .int .i64 z, .bool false])) w' := by subst hx; exact ⟨z, rfl⟩
theorem RMPost.yes {w0 w w' : World} {x : Option (List PMark × Int)} {l ms : List PMark} {q : Int} {out : Value} {xs : List Value} (hx : x = some (l, q)) (hm : ms = l) (h : RL w0 w' w.heap.size out xs ms) : RMPost w0 w x (.returned (.tuple #[out, .int .i64 q, .bool true])) w' := by subst hx; subst hm; exact ⟨out, xs, rfl, h⟩
theorem RL.below {w0 w w' : World} {B : Nat} {out : Value} {xs : List Value} {ms : List PMark} (h : RL w0 w B out xs ms) (hb : Below w.heap.size w w') : RL w0 w' B out xs ms := ⟨ownsRow_below h.1 hb, h.2⟩
theorem own_grow {w w' : World} {B C e size n : Nat} {v : Value} {xs : List Value} (h : w.ownsRow B e size v n xs) (hg : w.grownBy w' v.ownBlock) (hC : C ≤ B) (hw : C ≤ w.heap.size) : Below C w w' :=
  ⟨hg.os, hg.tape, hg.output, hg.size, fun k hk => hg.block k (by omega) (fun e => by have := (own_block h k e.symm).1; omega)⟩
theorem own_base {w : World} {B C e size n : Nat} {v : Value} {xs : List Value} (h : w.ownsRow B e size v n xs) (hC : C ≤ B) : w.ownsRow C e size v n xs :=
  ⟨h.1, h.2.imp id (fun ⟨g, cap, cur, hv, hb, r⟩ => ⟨g, cap, cur, hv, Nat.le_trans hC hb, r⟩)⟩
theorem own_cells {w : World} {B e size n : Nat} {g cap : Nat} {xs : List Value} (h : w.ownsRow B e size (.slice (some ⟨g, 0, none⟩) (n + 1) cap) (n + 1) xs) : ∀ (j : Nat) (u : Value), xs[j]? = some u → w.cell? ((⟨g, 0, none⟩ : Addr).add j) = some u := by
  intro j u hj
  rcases h.2 with ⟨hv, _⟩ | ⟨g', cap', cur, hv, _, hg, _, _, _, ht⟩
  · simp at hv
  · simp only [Value.slice.injEq, Option.some.injEq, Addr.mk.injEq] at hv
    obtain ⟨⟨rfl, _, _⟩, _, _⟩ := hv
    rw [adr_add]
    rw [← ht, List.getElem?_take] at hj
    split at hj
    · rw [Array.getElem?_toList] at hj
      unfold World.cell?; rw [hg]
      simpa using hj
    · simp at hj
theorem marksX_one {w : World} : ∀ {ms : List PMark} {xs : List Value}, MarksX w ms xs → ∀ u ∈ xs, u.oneCell' = true
  | [], xs, h, u, hu => by have h' : xs = [] := h; subst h'; simp at hu
  | m :: r, xs, h, u, hu => by
    obtain ⟨av, ys, rfl, ⟨p, c, rfl, _⟩, h3⟩ := h
    rcases List.mem_append.1 hu with h4 | h4
    · exact mkCell_one _ _ rfl u h4
    · exact marksX_one h3 u h4
theorem MarksX.app {w : World} : ∀ {a b : List PMark} {xs ys : List Value}, MarksX w a xs → MarksX w b ys → MarksX w (a ++ b) (xs ++ ys)
  | [], b, xs, ys, h, h2 => by have h' : xs = [] := h; subst h'; exact h2
  | m :: r, b, xs, ys, h, h2 => by
    obtain ⟨av, zs, rfl, h3, h4⟩ := h
    exact ⟨av, zs ++ ys, by simp, h3, h4.app h2⟩

set_option maxRecDepth 1000000 in
set_option maxHeartbeats 8000000 in
theorem rmarks_c (w0 : World) (Q : Nat → Prop) : ∀ (dd : Nat) (n : PNode) (v : Value), NodeD w0 Q dd v n → tsize n ≤ 4194304 → ∀ (w : World) (d : Nat) (q : Int), Below w0.heap.size w0 w → d ≤ 65 → 0 ≤ q → q ≤ 4096 →
    Calls Tryz.prog 63 #[v, .int .i64 d, .int .i64 q] w fun en w' => RMPost w0 w (rmk n d q) en w' ∧ Below w.heap.size w w' := by
  intro dd
  induction dd with
  | zero => intro n v h; exact False.elim h
  | succ dd ih =>
    intro n v h hz w d q hlow hd hq0 hq1
    obtain ⟨pa, ca, pk, ck, rfl, hca, hck, hA, hK⟩ := h
    obtain ⟨nm, ps, ats, ks, tx⟩ := n
    simp only [PNode.kids, PNode.attrs] at hca hck hA hK
    have hz2 : tsize (.mk nm ps ats ks tx) = 1 + tsizeL ks := by rw [tsize]
    have hkl := tsizeL_len ks
    rw [hz2] at hz
    have hks' : ∀ k ∈ ks, tsize k ≤ 4194304 := fun k hk => by have := tsizeL_mem ks k hk; omega
    have hav : AttrsC w0 (.slice pa ats.length ca) ats := ⟨pa, ca, rfl, hca, hA.flat⟩
    show Calls Tryz.prog 63 #[.agg #[.string ⟨nm.toArray⟩, .int .i64 ps, .slice pa ats.length ca, .slice pk ks.length ck, .string ⟨tx.toArray⟩], .int .i64 d, .int .i64 q] w _
    clear hca hA hz2
    have htk : rmk (.mk nm ps ats ks tx) d q = if 64 < d ∨ q - 1 < 0 ∨ (ks ≠ [] ∧ tx ≠ []) then none
        else if ks = [] ∧ tx = [] then some ([⟨4, 0, nm, ats, []⟩], q - 1)
        else wrapR nm ats tx (rmkL ks (d + 1) (q - 1)) := by unfold rmk; rfl
    rw [htk]
    clear htk
    obtain ⟨c, hc⟩ : ∃ c, c = ks.length := ⟨_, rfl⟩
    obtain ⟨al, hal⟩ : ∃ al, al = ats.length := ⟨_, rfl⟩
    rw [← hc] at hck ⊢
    rw [← hal] at hav ⊢
    have hcl : c ≤ 4194304 := by omega
    have HFi := Lib.hid ih; have HFk := Lib.hid hK; have HFl := Lib.hid hlow; have HFa := Lib.hid hav; have HFc := Lib.hid hc; have HFs := Lib.hid hks'; clear ih hK hlow hav hc hal hkl hks' hz
    have hE := Nd5.new w nm ps (.slice pa al ca) (.slice pk c ck) tx
    have hBB : Below w.heap.size w (w.alloc (.cells #[.string ⟨nm.toArray⟩, .int .i64 ps, .slice pa al ca, .slice pk c ck, .string ⟨tx.toArray⟩] 47)) := (Below.refl _ w).alloc (Nat.le_refl _) _
    by_cases h1 : 64 < d
    · have hI : (64 : Int) < (d : Int) := by omega
      have HX := Lib.hid (show 64 < d ∨ q - 1 < 0 ∨ ks ≠ [] ∧ tx ≠ [] from .inl h1)
      rw [if_pos HX.out]
      go_enter Tryz.func63, Tryz.ntmps63
      go_wp2_with fail
      go_ret3
      exact ⟨RMPost.no rfl, hBB⟩
    have hI : (d : Int) ≤ 64 := by omega
    by_cases h2 : q - 1 < 0
    · have HX := Lib.hid (show 64 < d ∨ q - 1 < 0 ∨ ks ≠ [] ∧ tx ≠ [] from .inr (.inl h2))
      rw [if_pos HX.out]
      go_enter Tryz.func63, Tryz.ntmps63
      go_wp2_with fail
      go_ret3
      exact ⟨RMPost.no rfl, hBB⟩
    have hI2 : (0 : Int) ≤ q - 1 := by omega
    by_cases hks : ks = []
    · have hc0' : c = 0 := by rw [HFc.out, hks]; rfl
      subst hc0'
      by_cases htx : tx = []
      · subst htx
        rw [if_neg (show ¬(64 < d ∨ q - 1 < 0 ∨ ks ≠ [] ∧ ([] : Bytes) ≠ []) from fun h => h.elim h1 (fun h => h.elim h2 (fun h => h.2 rfl))), if_pos ⟨hks, rfl⟩]
        have hown := own_new (w.alloc (.cells #[.string ⟨nm.toArray⟩, .int .i64 ps, .slice pa al ca, .slice pk 0 ck, .string ⟨#[]⟩] 47)) w.heap.size #[.int .i64 4, .int .i64 0, .string ⟨nm.toArray⟩, .slice pa al ca, .string ⟨#[]⟩] 41 5 rfl (by simp) (by omega)
        have HO := Lib.hid hown; clear hown
        go_enter Tryz.func63, Tryz.ntmps63
        go_wp2_with fail
        go_ret3
        refine ⟨RMPost.yes (ms := [⟨4, 0, nm, ats, []⟩]) (xs := mkCell ⟨4, 0, nm, ats, []⟩ (.slice pa al ca)) rfl rfl ⟨?_, ⟨.slice pa al ca, [], by simp, HFa.out, rfl⟩⟩, hBB.alloc (by simp) _⟩
        have := HO.out
        rw [show (w.alloc (.cells #[.string ⟨nm.toArray⟩, .int .i64 ps, .slice pa al ca, .slice pk 0 ck, .string ⟨#[]⟩] 47)).heap.size = w.heap.size + 1 from by simp] at this
        exact this
      · have hT2 : tx.isEmpty = false := by simpa using htx
        have htl : rmkL ks (d + 1) (q - 1) = some ([], q - 1) := by rw [hks]; rfl
        rw [if_neg (show ¬(64 < d ∨ q - 1 < 0 ∨ ks ≠ [] ∧ tx ≠ []) from fun h => h.elim h1 (fun h => h.elim h2 (fun h => h.1 hks))), if_neg (fun h => htx h.2), htl]
        obtain ⟨i0, z0, by0, hi0, hz0, hs0, hb0, hy0, hbl⟩ := info_mark
        have IM := Lib.hid (And.intro hi0 (And.intro hz0 (And.intro hs0 (And.intro hb0 hy0)))); clear hi0 hz0 hs0 hb0 hy0
        have hE1 := hE
        obtain ⟨wB, hwB⟩ : ∃ wB, wB = w.alloc (.cells #[.string ⟨nm.toArray⟩, .int .i64 ps, .slice pa al ca, .slice pk 0 ck, .string ⟨tx.toArray⟩] 47) := ⟨_, rfl⟩
        have hsB : wB.heap.size = w.heap.size + 1 := by rw [hwB]; simp
        rw [← hwB] at hE1 hBB
        obtain ⟨wo, hwo⟩ : ∃ wo, wo = wB.alloc (.cells #[.int .i64 1, .int .i64 0, .string ⟨nm.toArray⟩, .slice pa al ca, .string ⟨#[]⟩] 41) := ⟨_, rfl⟩
        have hbo : Below wB.heap.size wB wo := by rw [hwo]; exact (Below.refl _ wB).alloc (Nat.le_refl _) _
        have hso : wo.heap.size = w.heap.size + 2 := by rw [hwo]; simp; omega
        have hso1 : wo.heap.size ≤ w.heap.size + 2 := by omega
        have hso2 : w.heap.size + 2 ≤ wo.heap.size := by omega
        clear hso
        have hown := own_new wB (w.heap.size + 1) #[.int .i64 1, .int .i64 0, .string ⟨nm.toArray⟩, .slice pa al ca, .string ⟨#[]⟩] 41 5 rfl (by omega) (by omega)
        rw [← hwo, hsB] at hown
        have hEo := hE1.below hbo
        have hRL : RL w0 wo (w.heap.size + 1) (.slice (some ⟨w.heap.size + 1, 0, none⟩) 1 1) (mkCell ⟨1, 0, nm, ats, []⟩ (.slice pa al ca)) [⟨1, 0, nm, ats, []⟩] := ⟨hown, ⟨.slice pa al ca, [], by simp, HFa.out, rfl⟩⟩
        have HB := Lib.hid (And.intro hBB (And.intro hbo (And.intro hEo (And.intro hRL hwB)))); clear hE hE1 hBB hbo hEo hRL hown
        go_enter Tryz.func63, Tryz.ntmps63
        go_wp2_with fail
        rw [show (w.alloc (.cells #[.string ⟨nm.toArray⟩, .int .i64 ps, .slice pa al ca, .slice pk 0 ck, .string ⟨tx.toArray⟩] 47)).alloc (.cells #[.int .i64 1, .int .i64 0, .string ⟨nm.toArray⟩, .slice pa al ca, .string ⟨#[]⟩] 41) = wo from by rw [hwo, hwB]]
        have hsB1 : wB.heap.size ≤ w.heap.size + 1 := by omega
        have hsB2 : w.heap.size + 1 ≤ wB.heap.size := by omega
        clear hwo hwB hsB
        have q0 := HB.out.2.2.1.c0; have q2 := HB.out.2.2.1.c2; have q3 := HB.out.2.2.1.c3; have q4 := HB.out.2.2.1.c4
        go_loopg [2, 9, 10] 0 (fun g lv ov iv wr => wr = wo ∧ lv = .int .i64 (q - 1) ∧ ov = .slice (some ⟨w.heap.size + 1, 0, none⟩) 1 1 ∧ iv = .int .i64 0)
        case atStart => exact ⟨rfl, rfl, rfl, rfl⟩
        case round =>
          obtain ⟨hwr, rfl, rfl, rfl⟩ := hrel
          rw [hwr]; clear hwr
          have hN1 : 1 + 1 ≤ maxLen := by unfold maxLen; omega
          have hN2 : (1 + 1) * by0 ≤ 140737488355328 := Nat.le_trans (Nat.mul_le_mul (show 1 + 1 ≤ 8388608 by omega) hbl) (by omega)
          have HN1 := Lib.hid (And.intro hN1 hN2); clear hN1 hN2
          go_wp2_with (first
            | (at_builtin; refine wpList_append_own_at _ rfl (.tmp 86) (.tmp 90) 35 rfl (w.heap.size + 1) 41 i0 z0 5 by0 Tryz.underlying35 IM.out.1 IM.out.2.1 IM.out.2.2.1 IM.out.2.2.2.1 IM.out.2.2.2.2 (by decide) (.slice (some ⟨w.heap.size + 1, 0, none⟩) 1 1) (1) (mkCell ⟨1, 0, nm, ats, []⟩ (.slice pa al ca)) rfl (ownsRow_below HB.out.2.2.2.1.1 ((Below.refl _ wo).alloc (Nat.le_refl _) _)) ⟨wo.heap.size, 0, none⟩ 1 1 (mkCell ⟨3, 0, [], [], tx⟩ (.slice none 0 0)) rfl rfl ?c1 ?c2 ?c3 ?c4 ?c5 ?_))
          case c1 => exact cells_new wo _ _
          case c2 => exact mkCell_one _ _ rfl
          case c3 => exact HN1.out.1
          case c4 => exact HN1.out.2
          case c5 => simp; omega
          intro v5 w5 hown5 hgrow5 _ _
          obtain ⟨g5, cap5, rfl⟩ := row_form hown5
          have hb5 : Below (w.heap.size + 1) wo w5 := ((Below.refl _ wo).alloc (by omega) _).trans (own_grow (ownsRow_below HB.out.2.2.2.1.1 ((Below.refl _ wo).alloc (Nat.le_refl _) _)) hgrow5 (Nat.le_refl _) (by simp; omega))
          have hx5 : MarksX w0 ([⟨1, 0, nm, ats, []⟩] ++ [⟨3, 0, [], [], tx⟩]) (mkCell ⟨1, 0, nm, ats, []⟩ (.slice pa al ca) ++ mkCell ⟨3, 0, [], [], tx⟩ (.slice none 0 0)) := HB.out.2.2.2.1.2.snoc (av := .slice none 0 0) ⟨none, 0, rfl, Nat.le_refl _, fun j hj => absurd hj (by simp)⟩
          have HP5 := Lib.hid (And.intro hown5 (And.intro hx5 hb5)); clear hown5 hx5 hgrow5 hb5
          have hE5 : Nd5 w5 w.heap.size nm ps (.slice pa al ca) (.slice pk 0 ck) tx := (HP5.out.2.2.block w.heap.size (by omega)).trans HB.out.2.2.1
          have hR5 : RL w0 w5 (w.heap.size + 1) (.slice (some ⟨g5, 0, none⟩) (1 + 1) cap5) (mkCell ⟨1, 0, nm, ats, []⟩ (.slice pa al ca) ++ mkCell ⟨3, 0, [], [], tx⟩ (.slice none 0 0)) ([⟨1, 0, nm, ats, []⟩] ++ [⟨3, 0, [], [], tx⟩]) := ⟨HP5.out.1, HP5.out.2.1⟩
          have hs5 := HP5.out.2.2.size
          have HR5 := Lib.hid hR5
          clear q0 q2 q3 q4 hR5
          have q0 := hE5.c0; have q2 := hE5.c2; have q3 := hE5.c3; have q4 := hE5.c4
          clear hE5
          have hN1 : (1 + 1) + 1 ≤ maxLen := by unfold maxLen; omega
          have hN2 : ((1 + 1) + 1) * by0 ≤ 140737488355328 := Nat.le_trans (Nat.mul_le_mul (show (1 + 1) + 1 ≤ 8388608 by omega) hbl) (by omega)
          have HN2 := Lib.hid (And.intro hN1 hN2); clear hN1 hN2
          go_wp2_with (first
            | (at_builtin; refine wpList_append_own_at _ rfl (.tmp 92) (.tmp 96) 35 rfl (w.heap.size + 1) 41 i0 z0 5 by0 Tryz.underlying35 IM.out.1 IM.out.2.1 IM.out.2.2.1 IM.out.2.2.2.1 IM.out.2.2.2.2 (by decide) (.slice (some ⟨g5, 0, none⟩) (1 + 1) cap5) (1 + 1) (mkCell ⟨1, 0, nm, ats, []⟩ (.slice pa al ca) ++ mkCell ⟨3, 0, [], [], tx⟩ (.slice none 0 0)) rfl (ownsRow_below HR5.out.1 ((Below.refl _ w5).alloc (Nat.le_refl _) _)) ⟨w5.heap.size, 0, none⟩ 1 1 (mkCell ⟨2, 0, nm, [], []⟩ (.slice none 0 0)) rfl rfl ?c1 ?c2 ?c3 ?c4 ?c5 ?_))
          case c1 => exact cells_new w5 _ _
          case c2 => exact mkCell_one _ _ rfl
          case c3 => exact HN2.out.1
          case c4 => exact HN2.out.2
          case c5 => simp; omega
          intro v6 w6 hown6 hgrow6 _ _
          obtain ⟨g6, cap6, rfl⟩ := row_form hown6
          have hb6 : Below (w.heap.size + 1) w5 w6 := ((Below.refl _ w5).alloc (by omega) _).trans (own_grow (ownsRow_below HR5.out.1 ((Below.refl _ w5).alloc (Nat.le_refl _) _)) hgrow6 (Nat.le_refl _) (by simp; omega))
          have hx6 : MarksX w0 ([⟨1, 0, nm, ats, []⟩] ++ [⟨3, 0, [], [], tx⟩] ++ [⟨2, 0, nm, [], []⟩]) (mkCell ⟨1, 0, nm, ats, []⟩ (.slice pa al ca) ++ mkCell ⟨3, 0, [], [], tx⟩ (.slice none 0 0) ++ mkCell ⟨2, 0, nm, [], []⟩ (.slice none 0 0)) := HR5.out.2.snoc (av := .slice none 0 0) ⟨none, 0, rfl, Nat.le_refl _, fun j hj => absurd hj (by simp)⟩
          have HP6 := Lib.hid (And.intro hown6 (And.intro hx6 hb6)); clear hown6 hx6 hgrow6 hb6
          go_wp2_with fail
          go_ret3
          exact ⟨RMPost.yes (by unfold wrapR; rw [if_neg htx]; rfl) rfl ⟨own_base HP6.out.1 (by omega), HP6.out.2.1⟩, (HB.out.1.trans (HB.out.2.1.mono (by omega))).trans ((HP5.out.2.2.mono (by omega)).trans (HP6.out.2.2.mono (by omega)))⟩
    · by_cases htx : tx = []
      · subst htx
        have hcp : 0 < c := by rw [HFc.out]; exact List.length_pos_iff.2 hks
        have hcI : (0 : Int) < (c : Int) := by omega
        rw [if_neg (show ¬(64 < d ∨ q - 1 < 0 ∨ ks ≠ [] ∧ ([] : Bytes) ≠ []) from fun h => h.elim h1 (fun h => h.elim h2 (fun h => h.2 rfl))), if_neg (fun h => hks h.1)]
        obtain ⟨X, hX⟩ : ∃ X, X = rmkL ks (d + 1) (q - 1) := ⟨_, rfl⟩
        rw [← hX]
        have HX := Lib.hid hX; clear hX
        obtain ⟨i0, z0, by0, hi0, hz0, hs0, hb0, hy0, hbl⟩ := info_mark
        have IM := Lib.hid (And.intro hi0 (And.intro hz0 (And.intro hs0 (And.intro hb0 hy0)))); clear hi0 hz0 hs0 hb0 hy0
        have hE1 := hE
        obtain ⟨wB, hwB⟩ : ∃ wB, wB = w.alloc (.cells #[.string ⟨nm.toArray⟩, .int .i64 ps, .slice pa al ca, .slice pk c ck, .string ⟨#[]⟩] 47) := ⟨_, rfl⟩
        have hsB : wB.heap.size = w.heap.size + 1 := by rw [hwB]; simp
        rw [← hwB] at hE1 hBB
        obtain ⟨wo, hwo⟩ : ∃ wo, wo = wB.alloc (.cells #[.int .i64 1, .int .i64 0, .string ⟨nm.toArray⟩, .slice pa al ca, .string ⟨#[]⟩] 41) := ⟨_, rfl⟩
        have hbo : Below wB.heap.size wB wo := by rw [hwo]; exact (Below.refl _ wB).alloc (Nat.le_refl _) _
        have hso : wo.heap.size = w.heap.size + 2 := by rw [hwo]; simp; omega
        have hso1 : wo.heap.size ≤ w.heap.size + 2 := by omega
        have hso2 : w.heap.size + 2 ≤ wo.heap.size := by omega
        clear hso
        have hown := own_new wB (w.heap.size + 1) #[.int .i64 1, .int .i64 0, .string ⟨nm.toArray⟩, .slice pa al ca, .string ⟨#[]⟩] 41 5 rfl (by omega) (by omega)
        rw [← hwo, hsB] at hown
        have hEo := hE1.below hbo
        have hRL : RL w0 wo (w.heap.size + 1) (.slice (some ⟨w.heap.size + 1, 0, none⟩) 1 1) (mkCell ⟨1, 0, nm, ats, []⟩ (.slice pa al ca)) [⟨1, 0, nm, ats, []⟩] := ⟨hown, ⟨.slice pa al ca, [], by simp, HFa.out, rfl⟩⟩
        have HB := Lib.hid (And.intro hBB (And.intro hbo (And.intro hEo (And.intro hRL hwB)))); clear hE hE1 hBB hbo hEo hRL hown
        go_enter Tryz.func63, Tryz.ntmps63
        go_wp2_with fail
        rw [show (w.alloc (.cells #[.string ⟨nm.toArray⟩, .int .i64 ps, .slice pa al ca, .slice pk c ck, .string ⟨#[]⟩] 47)).alloc (.cells #[.int .i64 1, .int .i64 0, .string ⟨nm.toArray⟩, .slice pa al ca, .string ⟨#[]⟩] 41) = wo from by rw [hwo, hwB]]
        have hsB1 : wB.heap.size ≤ w.heap.size + 1 := by omega
        have hsB2 : w.heap.size + 1 ≤ wB.heap.size := by omega
        clear hwo hwB hsB
        have q0 := HB.out.2.2.1.c0; have q2 := HB.out.2.2.1.c2; have q3 := HB.out.2.2.1.c3; have q4 := HB.out.2.2.1.c4
        go_loopg [2, 9, 10] c (fun g lv ov iv wr => ∃ (k : Nat) (z : Int) (ys : List Value) (l : List PMark), k ≤ c ∧ g = c - k ∧ iv = .int .i64 k ∧ lv = .int .i64 z ∧ RL w0 wr (w.heap.size + 1) ov ys ([⟨1, 0, nm, ats, []⟩] ++ l) ∧ Below (w.heap.size + 1) wo wr ∧
          X.map (fun x => (x.1, x.2)) = (rmkL (ks.drop k) (d + 1) z).map (fun x => (l ++ x.1, x.2)) ∧ 0 ≤ z ∧ z ≤ 4096 ∧ (l.length : Int) ≤ 3 * (4096 - z))
        case atStart => exact ⟨0, q - 1, _, [], Nat.zero_le _, rfl, rfl, rfl, by rw [List.append_nil]; exact HB.out.2.2.2.1, Below.refl _ _, by rw [HX.out]; simp, hI2, by omega, by simp; omega⟩
        case round =>
          obtain ⟨k, z, ys, l, hk, hg, rfl, rfl, hrl, hbw, hx, hz0, hz1, hll⟩ := hrel
          obtain ⟨mq, hmq⟩ : ∃ m, m = [⟨1, 0, nm, ats, []⟩] ++ l := ⟨_, rfl⟩
          rw [← hmq] at hrl
          have hL : mq.length = l.length + 1 := by rw [hmq, List.length_append, List.length_singleton]; omega
          obtain ⟨M, hM⟩ : ∃ M, M = mq.length := ⟨_, rfl⟩
          obtain ⟨po, co, rfl, hco⟩ := marksX_form hrl.1
          have hEr : Nd5 wr w.heap.size nm ps (.slice pa al ca) (.slice pk c ck) [] := (hbw.block w.heap.size (by omega)).trans HB.out.2.2.1
          have hsr := hbw.size
          clear q0 q2 q3 q4
          have q0 := hEr.c0; have q2 := hEr.c2; have q3 := hEr.c3; have q4 := hEr.c4
          clear hEr
          have hlw0 : Below w.heap.size w wr := (HB.out.1.trans (HB.out.2.1.mono (by omega))).trans (hbw.mono (by omega))
          by_cases hlt : k < c
          · have hkI : (k : Int) < (c : Int) := by omega
            have hka : k < ks.length := by rw [← HFc.out]; exact hlt
            rw [List.drop_eq_getElem_cons hka] at hx
            have hlw : Below w0.heap.size w0 wr := HFl.out.trans (hlw0.mono HFl.out.size)
            obtain ⟨g0, o0, pa1, ca1, pk1, ck1, rfl, _, b0, b1, b2, b3, b4, hN⟩ := HFk.out.get k hka
            have a0 := cell_keep hlw b0; have a1 := cell_keep hlw b1; have a2 := cell_keep hlw b2; have a3 := cell_keep hlw b3; have a4 := cell_keep hlw b4
            clear b0 b1 b2 b3 b4
            have hms := HFs.out _ (List.getElem_mem hka)
            generalize ks[k]'hka = m at *
            have hcall := HFi.out m _ hN hms wr (d + 1) z hlw (by omega) hz0 hz1
            rw [show ((d + 1 : Nat) : Int) = (d : Int) + 1 from by omega] at hcall
            cases hm : rmk m (d + 1) z with
            | none =>
              rw [hm] at hcall
              rw [rmkL_none hm] at hx
              have hx : X = none := by cases X with
                | none => rfl
                | some y => simp at hx
              have HC := Lib.hid hcall; have HXX := Lib.hid hx; have HW := Lib.hid hlw0; clear hcall hN hm hx hlw0 hlw hms hbw hrl hg hM hmq hL
              go_wp2_with (first
                | (go_at_call 63; refine HC.out.mono ?_; rintro en w2 ⟨⟨zz, rfl⟩, b2⟩))
              go_ret3
              exact ⟨RMPost.no (by rw [HXX.out]; rfl), HW.out.trans (b2.mono HW.out.size)⟩
            | some y =>
              obtain ⟨l2, z2⟩ := y
              rw [hm] at hcall
              rw [rmkL_step hm] at hx
              have hle := rmk_le m _ _ _ _ hm
              obtain ⟨L2, hL2⟩ : ∃ L2, l2.length = L2 + 1 := ⟨l2.length - 1, by omega⟩
              have hcall2 : Calls Tryz.prog 63 #[nodeV m pa1 ca1 pk1 ck1, .int .i64 ((d : Int) + 1), .int .i64 z] wr fun en w' => (∃ g2 cap2 xs2, en = .returned (.tuple #[.slice (some ⟨g2, 0, none⟩) (L2 + 1) cap2, .int .i64 z2, .bool true]) ∧ w'.ownsRow wr.heap.size 41 5 (.slice (some ⟨g2, 0, none⟩) (L2 + 1) cap2) (L2 + 1) xs2 ∧ MarksX w0 l2 xs2) ∧ Below wr.heap.size wr w' := by
                refine hcall.mono ?_
                rintro en w' ⟨⟨out2, xs2, rfl, h3, h4⟩, b⟩
                rw [hL2] at h3
                obtain ⟨g2, cap2, rfl⟩ := row_form h3
                exact ⟨⟨g2, cap2, xs2, rfl, h3, h4⟩, b⟩
              have hN1 : (mq.length + L2) + 1 ≤ maxLen := by unfold maxLen; omega
              have hN2 : ((mq.length + L2) + 1) * by0 ≤ 140737488355328 := Nat.le_trans (Nat.mul_le_mul (show (mq.length + L2) + 1 ≤ 8388608 by omega) hbl) (by omega)
              have HN3 := Lib.hid (And.intro hN1 hN2); clear hN1 hN2
              have HC := Lib.hid hcall2; have HXX := Lib.hid hx; have HW := Lib.hid hlw0; have HRR := Lib.hid hrl; have HBW := Lib.hid hbw; have HLE := Lib.hid (And.intro hle (And.intro hL2 (And.intro hmq (And.intro hg hll)))); clear hcall hcall2 hN hm hx hlw0 hlw hms hbw hrl hg hL hle hL2 hll hM hmq
              go_wp2_with (first
                | (go_at_call 63; refine HC.out.mono ?_; rintro en w2 ⟨⟨g2, cap2, xs2, rfl, h3, h4⟩, b2⟩; have H3 := Lib.hid (And.intro h3 h4); have hs2 := b2.size; have HB2 := Lib.hid b2; clear h3 h4 b2)
                | (at_builtin; refine wpList_append_own_at _ rfl (.tmp 80) (.tmp 81) 35 rfl (w.heap.size + 1) 41 i0 z0 5 by0 Tryz.underlying35 IM.out.1 IM.out.2.1 IM.out.2.2.1 IM.out.2.2.2.1 IM.out.2.2.2.2 (by decide) (.slice po mq.length co) mq.length ys rfl (ownsRow_below HRR.out.1 HB2.out) ⟨g2, 0, none⟩ (L2 + 1) cap2 xs2 rfl H3.out.1.1 ?c1 ?c2 ?c3 ?c4 ?c5 ?_))
              case c1 => exact own_cells H3.out.1
              case c2 => exact marksX_one H3.out.2
              case c3 => have := HN3.out.1; omega
              case c4 => have := HN3.out.2; rw [← Nat.add_assoc]; exact this
              case c5 => omega
              intro v5 w5 hown5 hgrow5 _ _
              have hb5 : Below (w.heap.size + 1) w2 w5 := own_grow (ownsRow_below HRR.out.1 HB2.out) hgrow5 (Nat.le_refl _) (by omega)
              have HP5 := Lib.hid (And.intro hown5 hb5); clear hown5 hb5 hgrow5
              go_wp2_with fail
              go_roundg (c - (k + 1))
              case measure => have := HLE.out.2.2.2.1; omega
              case rel =>
                have e1 := HLE.out.1; have e2 := HLE.out.2.1; have e3 := HLE.out.2.2.1; have e4 := HLE.out.2.2.2.2
                refine ⟨k + 1, z2, ys ++ xs2, l ++ l2, by omega, rfl, by go_num, rfl, ⟨?_, ?_⟩, (HBW.out.trans (HB2.out.mono (by omega))).trans HP5.out.2, HXX.out, e1.1, by omega, by rw [List.length_append]; push_cast; omega⟩
                · have := HP5.out.1
                  rw [← List.append_assoc, ← e3, List.length_append, e2]
                  exact this
                · rw [← List.append_assoc, ← e3]; exact HRR.out.2.app H3.out.2
          · obtain rfl : k = c := by omega
            have hd0 : ks.drop k = [] := by rw [HFc.out]; exact List.drop_length
            rw [hd0] at hx
            have hx : X = some (l, z) := by
              cases X with
              | none => simp [rmkL] at hx
              | some y => simp [rmkL] at hx; rw [← hx.1, ← hx.2]
            have hkI : decide ((k : Int) < (k : Int)) = false := by simp
            have hN1 : mq.length + 1 ≤ maxLen := by unfold maxLen; omega
            have hN2 : (mq.length + 1) * by0 ≤ 140737488355328 := Nat.le_trans (Nat.mul_le_mul (show mq.length + 1 ≤ 8388608 by omega) hbl) (by omega)
            have HN4 := Lib.hid (And.intro hN1 hN2); clear hN1 hN2
            have HRR := Lib.hid hrl; have HW := Lib.hid (And.intro hlw0 (And.intro hx hmq)); clear hlw0 hx hmq hrl hbw hg hd0 hL hM
            go_wp2_with (first
              | (at_builtin; refine wpList_append_own_at _ rfl (.tmp 92) (.tmp 96) 35 rfl (w.heap.size + 1) 41 i0 z0 5 by0 Tryz.underlying35 IM.out.1 IM.out.2.1 IM.out.2.2.1 IM.out.2.2.2.1 IM.out.2.2.2.2 (by decide) (.slice po mq.length co) (mq.length) (ys) rfl (ownsRow_below HRR.out.1 ((Below.refl _ wr).alloc (Nat.le_refl _) _)) ⟨wr.heap.size, 0, none⟩ 1 1 (mkCell ⟨2, 0, nm, [], []⟩ (.slice none 0 0)) rfl rfl ?c1 ?c2 ?c3 ?c4 ?c5 ?_))
            case c1 => exact cells_new wr _ _
            case c2 => exact mkCell_one _ _ rfl
            case c3 => exact HN4.out.1
            case c4 => exact HN4.out.2
            case c5 => simp; omega
            intro v6 w6 hown6 hgrow6 _ _
            obtain ⟨g6, cap6, rfl⟩ := row_form hown6
            have hb6 : Below (w.heap.size + 1) wr w6 := ((Below.refl _ wr).alloc (by omega) _).trans (own_grow (ownsRow_below HRR.out.1 ((Below.refl _ wr).alloc (Nat.le_refl _) _)) hgrow6 (Nat.le_refl _) (by simp; omega))
            have hx6 : MarksX w0 (mq ++ [⟨2, 0, nm, [], []⟩]) (ys ++ mkCell ⟨2, 0, nm, [], []⟩ (.slice none 0 0)) := HRR.out.2.snoc (av := .slice none 0 0) ⟨none, 0, rfl, Nat.le_refl _, fun j hj => absurd hj (by simp)⟩
            have HP6 := Lib.hid (And.intro hown6 (And.intro hx6 hb6)); clear hown6 hx6 hgrow6 hb6
            go_wp2_with fail
            go_ret3
            exact ⟨RMPost.yes (by rw [HW.out.2.1]; rfl) (by rw [HW.out.2.2]; simp) ⟨by rw [List.length_append]; exact own_base HP6.out.1 (by omega), HP6.out.2.1⟩, HW.out.1.trans (HP6.out.2.2.mono (by omega))⟩
      · have hcp : 0 < c := by rw [HFc.out]; exact List.length_pos_iff.2 hks
        have hcI : (0 : Int) < (c : Int) := by omega
        have hT2 : tx.isEmpty = false := by simpa using htx
        have HX := Lib.hid (show 64 < d ∨ q - 1 < 0 ∨ ks ≠ [] ∧ tx ≠ [] from .inr (.inr ⟨hks, htx⟩))
        rw [if_pos HX.out]
        go_enter Tryz.func63, Tryz.ntmps63
        go_wp2_with fail
        go_ret3
        exact ⟨RMPost.no rfl, hBB⟩
end Go.Proofs.YtcicibeggkmlcaaGreatDoor

namespace Go.Proofs.YtcicibeggkmlcaaGreatDoor
open Go.RowKit Go.Sof

set_option maxRecDepth 1000000 in
set_option maxHeartbeats 4000000 in
theorem rttext_c (w0 : World) (Q : Nat → Prop) (dd : Nat) (n : PNode) (v : Value) (hn : NodeD w0 Q dd v n) (hz : NdSz n) (h5 : tsize n ≤ 500) (w : World) (hlow : Below w0.heap.size w0 w) (X : Except Int Bytes) (hX : rtextT n = X) :
    Calls Tryz.prog 36 #[v] w fun en w' => TextPost X en ∧ Below w.heap.size w w' := by
  have hd1 : ∃ d, dd = d + 1 := by cases dd with
    | zero => exact False.elim hn
    | succ d => exact ⟨d, rfl⟩
  obtain ⟨d, rfl⟩ := hd1
  have hn0 := hn
  obtain ⟨pa, ca, pk, ck, hv, _, _, _, _⟩ := hn0
  subst hv
  unfold nodeV at hn ⊢
  have hmk := fun W hW => rmarks_c w0 Q _ n _ hn (by omega) W 1 4096 hW (by omega) (by omega) (by omega)
  have hrm := rmk_eq n 1 0 4096 (by omega) (by omega)
  unfold rtextT at hX
  rw [hrm] at hX
  rw [hrm] at hmk
  clear hrm
  generalize n.name = N at *
  generalize n.pos = P at *
  obtain ⟨al, hal⟩ : ∃ k, k = n.attrs.length := ⟨_, rfl⟩
  obtain ⟨kl, hkl⟩ : ∃ k, k = n.kids.length := ⟨_, rfl⟩
  rw [← hal, ← hkl] at hmk ⊢
  generalize n.text = T at *
  have hlw1 : Below w0.heap.size w0 (w.alloc (.cells #[.string ⟨N.toArray⟩, .int .i64 P, .slice pa al ca, .slice pk kl ck, .string ⟨T.toArray⟩] 47)) := hlow.alloc hlow.size _
  have hbW : Below w.heap.size w (w.alloc (.cells #[.string ⟨N.toArray⟩, .int .i64 P, .slice pa al ca, .slice pk kl ck, .string ⟨T.toArray⟩] 47)) := (Below.refl _ w).alloc (Nat.le_refl _) _
  have hcall := hmk _ hlw1
  have HA := Lib.hid (And.intro hbW hlw1); clear hbW hlw1 hmk hn hal hkl hlow
  cases htm : tmk n 1 0 with
  | none =>
    rw [htm] at hX hcall
    have hX : .error 2 = X := hX
    subst hX
    have HC := Lib.hid hcall; clear hcall htm hz h5
    go_enter Tryz.func36, Tryz.ntmps36
    go_wp2_with (first
      | (go_at_call 63; refine HC.out.mono ?_; rintro en w1 ⟨⟨z, rfl⟩, b1⟩))
    go_ret2
    exact ⟨rfl, HA.out.1.trans (b1.mono HA.out.1.size)⟩
  | some l =>
    rw [htm] at hX hcall
    have hlen := (tmk_len n _ _ _ htm).1
    have hmz := hz.2 _ _ _ htm
    have hX : textP l = X := hX
    have hcall2 : Calls Tryz.prog 63 #[.agg #[.string ⟨N.toArray⟩, .int .i64 P, .slice pa al ca, .slice pk kl ck, .string ⟨T.toArray⟩], .int .i64 1, .int .i64 4096] (w.alloc (.cells #[.string ⟨N.toArray⟩, .int .i64 P, .slice pa al ca, .slice pk kl ck, .string ⟨T.toArray⟩] 47)) fun en w' => (∃ p c z, en = .returned (.tuple #[.slice p l.length c, .int .i64 z, .bool true]) ∧ MarksC w' p l) ∧ Below w.heap.size w w' := by
      refine hcall.mono ?_
      rintro en w' ⟨⟨out, xs, rfl, h3, h4⟩, b⟩
      obtain ⟨p, c, rfl, _⟩ := marksX_form h3
      exact ⟨⟨p, c, _, rfl, marksX_read (HA.out.2.trans (b.mono HA.out.2.size)) h3 h4⟩, HA.out.1.trans (b.mono HA.out.1.size)⟩
    have htx := fun W p c (hC : MarksC W p l) => rtext_c W p c l (by omega) hmz hC X hX
    obtain ⟨L, hL⟩ : ∃ L, L = l.length := ⟨_, rfl⟩
    rw [← hL] at htx hcall2
    have HC := Lib.hid hcall2; have HT := Lib.hid htx; clear hcall hcall2 htm hz hmz htx hL hX h5 hlen
    cases X with
    | ok t =>
      go_enter Tryz.func36, Tryz.ntmps36
      go_wp2_with (first
        | (go_at_call 63; refine HC.out.mono ?_; rintro en w1 ⟨⟨p, c, z, rfl, hC⟩, b1⟩; have H1 := Lib.hid hC; clear hC)
        | (go_at_call 29; refine (HT.out _ _ _ H1.out).mono ?_; rintro en w3 ⟨rfl, b3⟩))
      go_ret2
      exact ⟨rfl, b1.trans (b3.mono b1.size)⟩
    | error x =>
      go_enter Tryz.func36, Tryz.ntmps36
      go_wp2_with (first
        | (go_at_call 63; refine HC.out.mono ?_; rintro en w1 ⟨⟨p, c, z, rfl, hC⟩, b1⟩; have H1 := Lib.hid hC; clear hC)
        | (go_at_call 29; refine (HT.out _ _ _ H1.out).mono ?_; rintro en w3 ⟨rfl, b3⟩))
      go_ret2
      exact ⟨rfl, b1.trans (b3.mono b1.size)⟩
end Go.Proofs.YtcicibeggkmlcaaGreatDoor
