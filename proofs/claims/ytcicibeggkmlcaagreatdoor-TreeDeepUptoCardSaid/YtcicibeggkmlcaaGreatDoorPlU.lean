/- Plain mathematics of trees: whether two are one; a tree that is written is read as it was. Conditions: none. -/
import Derived.Test.YtcicibeggkmlcaaGreatDoorPlT
namespace Go.Sof
open Go.Lib

mutual
/-- the tree without places. -/
def nstrip : PNode → PNode
  | .mk nm _ ats ks tx => .mk nm 0 ats (nstripL ks) tx
def nstripL : List PNode → List PNode
  | [] => []
  | n :: r => nstrip n :: nstripL r
end
theorem nstripL_len : ∀ ks : List PNode, (nstripL ks).length = ks.length
  | [] => by simp [nstripL]
  | n :: r => by simp [nstripL, nstripL_len r]
theorem nstripL_app : ∀ a b : List PNode, nstripL (a ++ b) = nstripL a ++ nstripL b
  | [], b => by simp [nstripL]
  | n :: r, b => by simp [nstripL, nstripL_app r b]
def attrB (a b : PAttr) : Bool := a.name == b.name && a.value == b.value
def attrsB : List PAttr → List PAttr → Bool
  | [], l => l.isEmpty
  | _ :: _, [] => false
  | a :: r, b :: s => attrB a b && attrsB r s
mutual
/-- are two one, but for their places? -/
def sameB : PNode → PNode → Bool
  | .mk nm _ ats ks tx, b => nm == b.name && tx == b.text && attrsB ats b.attrs && sameL ks b.kids
def sameL : List PNode → List PNode → Bool
  | [], l => l.isEmpty
  | _ :: _, [] => false
  | n :: r, m :: s => sameB n m && sameL r s
end
mutual
/-- are two one, places too? -/
def placesB : PNode → PNode → Bool
  | .mk nm ps ats ks tx, b => ps == b.pos && sameB (.mk nm ps ats ks tx) b && placesL ks b.kids
def placesL : List PNode → List PNode → Bool
  | [], l => l.isEmpty
  | _ :: _, [] => false
  | n :: r, m :: s => placesB n m && placesL r s
end
theorem attrB_iff {a b : PAttr} : attrB a b = true ↔ a = b := by
  obtain ⟨a1, a2⟩ := a; obtain ⟨b1, b2⟩ := b; simp [attrB]
theorem attrsB_iff : ∀ {a b : List PAttr}, attrsB a b = true ↔ a = b
  | [], b => by cases b <;> simp [attrsB]
  | _ :: _, [] => by simp [attrsB]
  | a :: r, b :: s => by simp [attrsB, attrB_iff, attrsB_iff (a := r)]
mutual
theorem sameB_iff : ∀ (a b : PNode), sameB a b = true ↔ nstrip a = nstrip b
  | .mk nm ps ats ks tx, .mk nm2 ps2 as2 ks2 tx2 => by
    simp only [sameB, nstrip, PNode.name, PNode.text, PNode.attrs, PNode.kids, Bool.and_eq_true, beq_iff_eq, attrsB_iff, sameL_iff ks ks2, PNode.mk.injEq]
    constructor
    · rintro ⟨⟨⟨h1, h2⟩, h3⟩, h4⟩; exact ⟨h1, trivial, h3, h4, h2⟩
    · rintro ⟨h1, _, h3, h4, h2⟩; exact ⟨⟨⟨h1, h2⟩, h3⟩, h4⟩
theorem sameL_iff : ∀ (a b : List PNode), sameL a b = true ↔ nstripL a = nstripL b
  | [], b => by cases b <;> simp [sameL, nstripL]
  | _ :: _, [] => by simp [sameL, nstripL]
  | n :: r, m :: s => by simp [sameL, nstripL, sameB_iff n m, sameL_iff r s]
end
theorem sameB_refl (a : PNode) : sameB a a = true := (sameB_iff a a).2 rfl
mutual
theorem placesB_refl : ∀ (a : PNode), placesB a a = true
  | .mk nm ps ats ks tx => by simp [placesB, PNode.pos, PNode.kids, sameB_refl, placesL_refl ks]
theorem placesL_refl : ∀ (a : List PNode), placesL a a = true
  | [] => by simp [placesL]
  | n :: r => by simp [placesL, placesB_refl n, placesL_refl r]
end

/-! ### the marks of a tree are few -/
def FewR : List PMark → Prop
  | [] => True
  | m :: r => (m.kind = 3 → m.text ≠ [] ∧ ∀ x, r.head? = some x → x.kind ≠ 3) ∧ FewR r
theorem FewR.few : ∀ {l : List PMark}, FewR l → Few l
  | [], _ => fun i m h => by simp at h
  | m :: r, h => fun i x hi hk => by
    cases i with
    | zero =>
      simp only [List.getElem?_cons_zero, Option.some.injEq] at hi; subst hi
      refine ⟨(h.1 hk).1, fun y hy => (h.1 hk).2 y ?_⟩
      rw [List.head?_eq_getElem?]; simpa using hy
    | succ i => exact FewR.few h.2 i x (by simpa using hi) hk
theorem FewR.app : ∀ {a b : List PMark}, FewR a → FewR b → (∀ x, b.head? = some x → x.kind ≠ 3) → FewR (a ++ b)
  | [], b, _, h, _ => h
  | m :: r, b, ha, hb, hh => by
    refine ⟨fun hk => ⟨(ha.1 hk).1, fun x hx => ?_⟩, ha.2.app hb hh⟩
    cases r with
    | nil => exact hh x (by simpa using hx)
    | cons y s => exact (ha.1 hk).2 x (by simpa using hx)
theorem tmk_head (n : PNode) (d k : Nat) (l : List PMark) (h : tmk n d k = some l) : ∃ m r, l = m :: r ∧ (m.kind = 1 ∨ m.kind = 4) := by
  cases n
  unfold tmk at h
  split at h
  · simp at h
  · split at h
    · simp only [Option.some.injEq] at h; exact ⟨_, _, h.symm, .inr rfl⟩
    · split at h
      · simp at h
      · simp only [Option.some.injEq] at h; exact ⟨_, _, h.symm, .inl rfl⟩
theorem tmkL_nil {d k : Nat} {l : List PMark} (h : tmkL [] d k = some l) : l = [] := by simpa [tmkL] using h.symm
mutual
theorem tmk_few : ∀ (n : PNode) (d k : Nat) (l : List PMark), tmk n d k = some l → FewR l
  | .mk nm ps ats ks tx, d, k, l, h => by
    unfold tmk at h
    split at h
    · simp at h
    · next h0 =>
      split at h
      · simp only [Option.some.injEq] at h; subst h; exact ⟨fun hk => by simp at hk, trivial⟩
      · split at h
        · simp at h
        · next l0 h1 =>
          simp only [Option.some.injEq] at h; subst h
          have hl := tmkL_few ks _ _ _ h1
          refine ⟨fun hk => by simp at hk, ?_⟩
          by_cases ht : tx = []
          · rw [if_pos ht]
            exact hl.1.app ⟨fun hk => by simp at hk, trivial⟩ (fun x hx => by simp at hx; subst hx; simp)
          · have hks : ks = [] := Classical.byContradiction fun hc => h0 (.inr (.inr ⟨hc, ht⟩))
            subst hks
            obtain rfl := tmkL_nil h1
            rw [if_neg ht]
            exact ⟨fun _ => ⟨ht, fun x hx => by simp at hx; subst hx; simp⟩, fun hk => by simp at hk, trivial⟩
theorem tmkL_few : ∀ (ks : List PNode) (d k : Nat) (l : List PMark), tmkL ks d k = some l → FewR l ∧ ∀ x, l.head? = some x → x.kind ≠ 3
  | [], d, k, l, h => by obtain rfl := tmkL_nil h; exact ⟨trivial, fun x hx => by simp at hx⟩
  | n :: r, d, k, l, h => by
    unfold tmkL at h
    split at h
    · simp at h
    · next l1 h1 =>
      split at h
      · simp at h
      · next l2 h2 =>
        simp only [Option.some.injEq] at h; subst h
        have e1 := tmk_few n _ _ _ h1
        have e2 := tmkL_few r _ _ _ h2
        obtain ⟨m, q, rfl, hm⟩ := tmk_head n _ _ _ h1
        exact ⟨e1.app e2.1 e2.2, fun x hx => by simp at hx; subst hx; omega⟩
end

/-! ### a tree that is written is read as it was -/
theorem strip_split : ∀ {ms a b : List PMark}, ms.map strip = (a ++ b).map strip → ∃ p q, ms = p ++ q ∧ p.map strip = a.map strip ∧ q.map strip = b.map strip := by
  intro ms a b h
  rw [List.map_append] at h
  refine ⟨ms.take a.length, ms.drop a.length, (List.take_append_drop _ _).symm, ?_, ?_⟩
  · rw [List.map_take, h, List.take_left' (by simp)]
  · rw [List.map_drop, h, List.drop_left' (by simp)]
theorem strip_cons {ms b : List PMark} {a : PMark} (h : ms.map strip = (a :: b).map strip) : ∃ m r, ms = m :: r ∧ m.kind = a.kind ∧ m.name = a.name ∧ m.attrs = a.attrs ∧ m.text = a.text ∧ r.map strip = b.map strip := by
  cases ms with
  | nil => simp at h
  | cons m r =>
    simp only [List.map_cons, List.cons.injEq, strip, PMark.mk.injEq] at h
    exact ⟨m, r, rfl, h.1.1, h.1.2.2.1, h.1.2.2.2.1, h.1.2.2.2.2, h.2⟩
mutual
theorem node_back : ∀ (n : PNode) (d k : Nat) (l ms : List PMark), tmk n d k = some l → ms.map strip = l.map strip →
    ∃ m r, ms = m :: r ∧ (m.kind = 1 ∨ m.kind = 4) ∧ ∀ (rest : List PMark) (f : Nat) (E : Int) (c : Nat), c + tsize n ≤ 4096 → 2 * ms.length ≤ f → ∃ n', nstrip n' = nstrip n ∧ nodeP f E d c m (r ++ rest) = .ok (n', rest, c + tsize n)
  | .mk nm ps ats ks tx, d, k, l, ms, h, hs => by
    have hz : tsize (.mk nm ps ats ks tx) = 1 + tsizeL ks := by rw [tsize]
    unfold tmk at h
    split at h
    · simp at h
    · next h0 =>
      have hd : ¬ 64 < d := fun e => h0 (.inl e)
      split at h
      · next h1 =>
        obtain ⟨rfl, rfl⟩ := h1
        simp only [Option.some.injEq] at h; subst h
        obtain ⟨m, r, rfl, e1, e2, e3, e4, e5⟩ := strip_cons hs
        have hr : r = [] := by simpa using e5
        subst hr
        refine ⟨m, [], rfl, .inr e1, fun rest f E c hc hf => ?_⟩
        obtain ⟨f, rfl⟩ : ∃ g, f = g + 1 := ⟨f - 1, by simp at hf; omega⟩
        refine ⟨.mk m.name m.pos m.attrs [] [], ?_, ?_⟩
        · simp only [nstrip, nstripL, e2, e3]
        · unfold nodeP
          rw [if_neg hd, if_neg (by simp [hz, tsizeL] at hc; omega), if_pos e1]
          simp [hz, tsizeL]
      · split at h
        · simp at h
        · next l0 h1 =>
          simp only [Option.some.injEq] at h; subst h
          obtain ⟨m, r, rfl, e1, e2, e3, e4, e5⟩ := strip_cons hs
          simp only at e1 e2 e3
          obtain ⟨p, q, rfl, e6, e7⟩ := strip_split e5
          refine ⟨m, p ++ q, rfl, .inl e1, fun rest f E c hc hf => ?_⟩
          simp only [List.length_cons, List.length_append] at hf
          obtain ⟨f, rfl⟩ : ∃ g, f = g + 1 := ⟨f - 1, by omega⟩
          have hq : 1 ≤ q.length := by have := congrArg List.length e7; simp at this; omega
          obtain ⟨ks', g, k1, k2, k3⟩ := kids_back ks d (k + 1) l0 p h1 e6 (q ++ rest) f E (c + 1) m [] [] (by omega) (by omega)
          unfold nodeP
          rw [if_neg hd, if_neg (by omega), if_neg (by omega), List.append_assoc, k3, List.nil_append]
          have hks : (ks' = []) ↔ (ks = []) := by
            have := congrArg List.length k1
            rw [nstripL_len, nstripL_len] at this
            constructor
            · rintro rfl; exact List.eq_nil_of_length_eq_zero (by simpa using this.symm)
            · rintro rfl; exact List.eq_nil_of_length_eq_zero (by simpa using this)
          by_cases ht : tx = []
          · subst ht
            rw [if_pos rfl, List.nil_append] at e7
            obtain ⟨z, r2, rfl, z1, z2, z3, z4, z5⟩ := strip_cons e7
            have hr : r2 = [] := by simpa using z5
            subst hr
            obtain ⟨g, rfl⟩ : ∃ j, g = j + 1 := ⟨g - 1, by have : [z].length = 1 := rfl; omega⟩
            refine ⟨.mk m.name m.pos m.attrs ks' (if ks' = [] then [] else []), by simp [nstrip, k1, e2, e3], ?_⟩
            simp only [List.cons_append, List.nil_append]
            unfold loopP
            rw [if_neg (by rw [z1]; simp), if_pos z1, if_neg (by rw [z2, e2]; simp), if_neg (by simp [blankB])]
            rw [hz]; congr 3; omega
          · have hk0 : ks = [] := Classical.byContradiction fun hc => h0 (.inr (.inr ⟨hc, ht⟩))
            have hk1 := hks.2 hk0
            subst hk1
            subst hk0
            rw [if_neg ht] at e7
            obtain ⟨y, r1, rfl, y1, y2, y3, y4, y5⟩ := strip_cons e7
            obtain ⟨z, r2, rfl, z1, z2, z3, z4, z5⟩ := strip_cons y5
            have hr : r2 = [] := by simpa using z5
            subst hr
            obtain ⟨g, rfl⟩ : ∃ j, g = j + 2 := ⟨g - 2, by have : [y, z].length = 2 := rfl; omega⟩
            refine ⟨.mk m.name m.pos m.attrs [] tx, by simp [nstrip, e2, e3], ?_⟩
            simp only [List.cons_append, List.nil_append]
            unfold loopP
            rw [if_pos y1]
            unfold loopP
            rw [if_neg (by rw [z1]; simp), if_pos z1, if_neg (by rw [z2, e2]; simp), if_neg (by simp), if_pos rfl, y4]
            simp [hz, tsizeL]
theorem kids_back : ∀ (ks : List PNode) (d k : Nat) (l ms : List PMark), tmkL ks (d + 1) k = some l → ms.map strip = l.map strip →
    ∀ (rest : List PMark) (f : Nat) (E : Int) (c : Nat) (m0 : PMark) (ks0 : List PNode) (tx : Bytes), c + tsizeL ks ≤ 4096 → 2 * ms.length + 1 ≤ f →
      ∃ ks' g, nstripL ks' = nstripL ks ∧ f ≤ g + ms.length ∧ loopP f E d c m0 ks0 tx (ms ++ rest) = loopP g E d (c + tsizeL ks) m0 (ks0 ++ ks') tx rest
  | [], d, k, l, ms, h, hs, rest, f, E, c, m0, ks0, tx, hc, hf => by
    obtain rfl := tmkL_nil h
    have hr : ms = [] := by simpa using hs
    subst hr
    exact ⟨[], f, rfl, by simp, by simp [tsizeL]⟩
  | n :: r, d, k, l, ms, h, hs, rest, f, E, c, m0, ks0, tx, hc, hf => by
    have hz : tsizeL (n :: r) = tsize n + tsizeL r := by rw [tsizeL]
    unfold tmkL at h
    split at h
    · simp at h
    · next l1 h1 =>
      split at h
      · simp at h
      · next l2 h2 =>
        simp only [Option.some.injEq] at h; subst h
        obtain ⟨p, q, rfl, e1, e2⟩ := strip_split hs
        rw [List.length_append] at hf
        obtain ⟨m, t, rfl, hm, hn⟩ := node_back n (d + 1) k l1 p h1 e1
        obtain ⟨f, rfl⟩ : ∃ g, f = g + 1 := ⟨f - 1, by omega⟩
        obtain ⟨n', hn1, hn2⟩ := hn (q ++ rest) f E c (by omega) (by omega)
        simp only [List.length_cons] at hf
        obtain ⟨ks', g, k1, k2, k3⟩ := kids_back r d _ l2 q h2 e2 rest f E (c + tsize n) m0 (ks0 ++ [n']) tx (by omega) (by omega)
        refine ⟨n' :: ks', g, by simp [nstripL, hn1, k1], by simp; omega, ?_⟩
        simp only [List.cons_append, List.append_assoc]
        rw [loopP, if_neg (by omega), if_neg (by omega), hn2]
        simp only
        rw [k3, hz, List.append_assoc]
        simp only [List.cons_append, List.nil_append]
        congr 1; omega
end
theorem text_back (n : PNode) (T : Bytes) (h : textT n = .ok T) : T.length ≤ 65536 ∧ ∃ n', parseT T = .ok n' ∧ nstrip n' = nstrip n := by
  unfold textT at h
  split at h
  · simp at h
  · next l hl =>
    split at h
    · simp at h
    · next hc =>
      obtain ⟨h1, ms, h2, h3⟩ := marks_back l T (tmk_few n _ _ _ hl).few h
      refine ⟨h1, ?_⟩
      obtain ⟨m, r, rfl, hm, hn⟩ := node_back n 1 0 l ms hl h3
      have hz : tsize n ≤ 4096 := by have := sizeC_eq n; omega
      obtain ⟨n', e1, e2⟩ := hn [] (2 * r.length + 2) T.length 0 (by omega) (by simp; omega)
      rw [List.append_nil] at e2
      refine ⟨n', ?_, e1⟩
      unfold parseT
      rw [h2]
      show treeP _ _ = _
      unfold treeP
      have hw : skipW (m :: r) = m :: r := by unfold skipW; rw [if_neg (by omega)]
      rw [hw]
      simp only
      rw [if_neg (by omega), e2]
      rfl
end Go.Sof
