/- The walk of tree.marks. Conditions: the tree lies in memory; so does the list of marks. -/
import Derived.Test.YtcicibeggkmlcaaGreatDoorTrAJ2
import Derived.Test.YtcicibeggkmlcaaGreatDoorLmXJ2
namespace Go.Proofs.YtcicibeggkmlcaaGreatDoor
open Go.RowKit Go.Sof

/-- append to a row of the call's own, as a step of a region; where the row lies then. -/
theorem step_append_at {P : Program} {ops : Array Oper} {o : Oper} {a : Act} {w : World} {K : Act → World → Prop} {Q : Exit → Act → World → Prop} {E : Prop}
    (hg : o.guard = none) (s x : Operand) (t : TypeId) (hop : o.op = Op.call { callee := Callee.builtin Builtin.append, args := #[s, x], argTypes := #[t, t] })
    (base : Nat) (e : TypeId) (i : TypeInfo) (z : Value) (size bytes : Nat) (h1 : P.underlying t = some (.slice e)) (h2 : P.info? e = some i) (h3 : i.zero = some z) (h4 : i.size = size) (h5 : i.bytes = bytes) (h6 : z.cells.size = size) (h7 : 0 < size)
    (v : Value) (n : Nat) (xs : List Value) (hs : a.eval s = v) (hown : w.ownsRow base e size v n xs)
    (ad : Addr) (m c : Nat) (news : List Value) (hx : a.eval x = .slice (some ad) m c) (hn : news.length = m * size) (hc : ∀ j u, news[j]? = some u → w.cell? (ad.add j) = some u) (h1c : ∀ u ∈ news, u.oneCell' = true)
    (b1 : n + m ≤ maxLen) (b2 : (n + m) * bytes ≤ 140737488355328) (hbase : base ≤ w.heap.size)
    (hK : ∀ v' w', w'.ownsRow base e size v' (n + m) (xs ++ news) → w.grownBy w' v.ownBlock → (v'.ownBlock = v.ownBlock ∨ v'.ownBlock = some w.heap.size) → K (a.put o.dst v') w') :
    if Region.wanted o (yielded ops a.tmps) = true then Oper.wp P o a w K Q else E := by
  have hw : Region.wanted o (yielded ops a.tmps) = true := by simp [Region.wanted, hg]
  rw [if_pos hw]
  obtain ⟨v', w', hrun, r1, r2, _, r3⟩ := run_append_own_at (P := P) w base t o.type e i z size bytes h1 h2 h3 h4 h5 h6 h7 v n xs hown ad m c news hn hc h1c b1 b2 hbase
  unfold Oper.wp
  simp [execOp, hop, resolve, invoke, builtin, hs, hx, hrun, Result.andThen]
  exact hK v' w' r1 r2 r3

/-- the ways through a region are joined: 'apply join'. -/
theorem join {T G : Prop} (h : Hid T → G) (t : T) : G := h (Lib.hid t)

/-- a list of marks in its variable's block, its attributes in an older world. -/
def ML (w0 w : World) (A : Nat) (out : Value) (xs : List Value) (ms : List PMark) : Prop :=
  w.heap[A]? = some (.cells #[out] 35 (0, 0)) ∧ w.ownsRow (A + 1) 41 5 out ms.length xs ∧ MarksX w0 ms xs ∧ Below w0.heap.size w0 w ∧ w0.heap.size ≤ A
/-- what an append to that list changes. -/
structure Go2 (A : Nat) (w w' : World) (out out' : Value) : Prop where
  low : Below A w w'
  block : ∀ k, k < w.heap.size → k ≠ A → some k ≠ out.ownBlock → w'.heap[k]? = w.heap[k]?
  own : out'.ownBlock = out.ownBlock ∨ ∃ k, out'.ownBlock = some k ∧ w.heap.size ≤ k
theorem Go2.of_below {A : Nat} {w w' : World} (out : Value) (h : Below w.heap.size w w') (hA : A ≤ w.heap.size) : Go2 A w w' out out := ⟨h.mono hA, fun k hk _ _ => h.block k hk, .inl rfl⟩
theorem Go2.trans {A : Nat} {a b c : World} {x y z : Value} (h : Go2 A a b x y) (k : Go2 A b c y z) : Go2 A a c x z := by
  refine ⟨h.low.trans k.low, fun j hj h1 h2 => ?_, ?_⟩
  · rw [← h.block j hj h1 h2]
    refine k.block j (Nat.lt_of_lt_of_le hj h.low.size) h1 (fun e => ?_)
    rcases h.own with e1 | ⟨q, e1, e2⟩
    · rw [e1] at e; exact h2 e
    · rw [e1] at e; simp only [Option.some.injEq] at e; omega
  · rcases k.own with e1 | ⟨q, e1, e2⟩
    · rw [e1]
      exact h.own
    · exact .inr ⟨q, e1, Nat.le_trans h.low.size e2⟩
theorem ML.lt {w0 w : World} {A : Nat} {out : Value} {xs : List Value} {ms : List PMark} (h : ML w0 w A out xs ms) : A < w.heap.size := (Array.getElem?_eq_some_iff.1 h.1).1
theorem ML.c0 {w0 w : World} {A : Nat} {out : Value} {xs : List Value} {ms : List PMark} (h : ML w0 w A out xs ms) : w.cell? ⟨A, 0, none⟩ = some out := by
  unfold World.cell?; rw [h.1]; rfl
theorem ML.fz {w0 w : World} {A : Nat} {out : Value} {xs : List Value} {ms : List PMark} (h : ML w0 w A out xs ms) : w.frozen? ⟨A, 0, none⟩ = false := by
  unfold World.frozen?; rw [h.1]; simp
theorem ML.below {w0 w w' : World} {A : Nat} {out : Value} {xs : List Value} {ms : List PMark} (h : ML w0 w A out xs ms) (hb : Below w.heap.size w w') : ML w0 w' A out xs ms :=
  ⟨(hb.block A h.lt).trans h.1, ownsRow_below h.2.1 hb, h.2.2.1, h.2.2.2.1.trans (hb.mono h.2.2.2.1.size), h.2.2.2.2⟩
theorem ML.form {w0 w : World} {A : Nat} {out : Value} {xs : List Value} {ms : List PMark} (h : ML w0 w A out xs ms) : ∃ p c, out = .slice p ms.length c ∧ ms.length ≤ c := marksX_form h.2.1
theorem ML.own_lt {w0 w : World} {A : Nat} {out : Value} {xs : List Value} {ms : List PMark} (h : ML w0 w A out xs ms) {k : Nat} (hk : out.ownBlock = some k) : A < k ∧ k < w.heap.size := by
  obtain ⟨h1, cur, h2⟩ := own_block h.2.1 k hk
  exact ⟨by omega, (Array.getElem?_eq_some_iff.1 h2).1⟩
theorem ML.after {w0 w wA w' : World} {A : Nat} {out : Value} {xs : List Value} {ms : List PMark} (h : ML w0 w A out xs ms) (hA : Below w.heap.size w wA) (hg : wA.grownBy w' out.ownBlock) :
    w'.heap[A]? = some (.cells #[out] 35 (0, 0)) ∧ w'.cell? ⟨A, 0, none⟩ = some out ∧ w'.frozen? ⟨A, 0, none⟩ = false := by
  have e : w'.heap[A]? = some (.cells #[out] 35 (0, 0)) := by
    rw [hg.block A (Nat.lt_of_lt_of_le h.lt hA.size) (fun e => by have := (h.own_lt e.symm).1; omega), hA.block A h.lt]; exact h.1
  refine ⟨e, ?_, ?_⟩
  · unfold World.cell?; rw [e]; rfl
  · unfold World.frozen?; rw [e]; simp
/-- a mark more. -/
theorem ML.push {w0 w wA w' : World} {A : Nat} {out : Value} {xs : List Value} {ms : List PMark} (h : ML w0 w A out xs ms) (hA : Below w.heap.size w wA) (hg : wA.grownBy w' out.ownBlock)
    {m : PMark} {av v' : Value} (ha : AttrsC w0 av m.attrs) (hown : w'.ownsRow (A + 1) 41 5 v' (ms.length + 1) (xs ++ mkCell m av)) (hb : v'.ownBlock = out.ownBlock ∨ v'.ownBlock = some wA.heap.size) :
    ML w0 (w'.setCell ⟨A, 0, none⟩ v') A v' (xs ++ mkCell m av) (ms ++ [m]) ∧ Go2 A w (w'.setCell ⟨A, 0, none⟩ v') out v' := by
  obtain ⟨e, -, -⟩ := h.after hA hg
  have hl : Below A w w' := (hA.mono (Nat.le_of_lt h.lt)).trans ⟨hg.os, hg.tape, hg.output, hg.size, fun k hk => hg.block k (by have := h.lt; have := hA.size; omega) (fun e => by have := (h.own_lt e.symm).1; omega)⟩
  have hl2 : Below A w (w'.setCell ⟨A, 0, none⟩ v') := hl.setCell (Nat.le_refl _) _
  refine ⟨⟨heap_setCell_same w' A 0 _ _ _ e, ?_, h.2.2.1.snoc ha, h.2.2.2.1.trans (hl2.mono h.2.2.2.2), h.2.2.2.2⟩, hl2, fun k hk h1 h2 => ?_, ?_⟩
  · rw [List.length_append]
    exact ownsRow_setCell_below hown (by show A < A + 1; omega) _
  · rw [Below.heap_setCell w' ⟨A, 0, none⟩ v' k (fun e => h1 e), hg.block k (Nat.lt_of_lt_of_le hk hA.size) h2, hA.block k hk]
  · rcases hb with hb | hb
    · exact .inl hb
    · exact .inr ⟨_, hb, hA.size⟩
theorem Nd5.go2 {w w' : World} {A b : Nat} {out out' : Value} {N : Bytes} {P : Int} {va vk : Value} {T : Bytes} (h : Nd5 w b N P va vk T) (hg : Go2 A w w' out out') (h1 : b ≠ A) (h2 : some b ≠ out.ownBlock) : Nd5 w' b N P va vk T :=
  (hg.block b h.lt h1 h2).trans h
theorem own_ne {w w' : World} {A b : Nat} {out out' : Value} (hg : Go2 A w w' out out') (h1 : b < w.heap.size) (h2 : some b ≠ out.ownBlock) : some b ≠ out'.ownBlock := by
  rcases hg.own with e | ⟨k, e1, e2⟩
  · rw [e]; exact h2
  · rw [e1]; intro e; simp only [Option.some.injEq] at e; omega
theorem tmkL_none {m : PNode} {r : List PNode} {d k : Nat} (h : tmk m d k = none) : tmkL (m :: r) d k = none := by rw [tmkL, h]
theorem tmkL_step {m : PNode} {r : List PNode} {d k : Nat} {l l2 : List PMark} (h : tmk m d (k + l.length) = some l2) : (tmkL (m :: r) d (k + l.length)).map (fun x => l ++ x) = (tmkL r d (k + (l ++ l2).length)).map (fun x => (l ++ l2) ++ x) := by
  rw [tmkL, h, List.length_append, ← Nat.add_assoc]
  simp only
  cases tmkL r d (k + l.length + l2.length) with
  | none => rfl
  | some l' => simp
def wrapM (nm : Bytes) (ats : List PAttr) (tx : Bytes) (x : Option (List PMark)) : Option (List PMark) :=
  match x with
  | none => none
  | some l => some (⟨1, 0, nm, ats, []⟩ :: (l ++ ((if tx = [] then [] else [⟨3, 0, [], [], tx⟩]) ++ [⟨2, 0, nm, [], []⟩])))
def TMPost (w0 w : World) (A : Nat) (out : Value) (ms : List PMark) (x : Option (List PMark)) (en : Ending) (w' : World) : Prop :=
  match x with
  | none => en = .returned (.bool false) ∧ Below A w w'
  | some l => en = .returned (.bool true) ∧ ∃ out' xs', ML w0 w' A out' xs' (ms ++ l) ∧ Go2 A w w' out out'
theorem TMPost.no {w0 w w' : World} {A : Nat} {out : Value} {ms : List PMark} {x : Option (List PMark)} (hx : x = none) (h : Below A w w') : TMPost w0 w A out ms x (.returned (.bool false)) w' := by subst hx; exact ⟨rfl, h⟩
theorem TMPost.yes {w0 w w' : World} {A : Nat} {out out' : Value} {ms l : List PMark} {xs' : List Value} {x : Option (List PMark)} {ms' : List PMark} (hx : x = some l) (hm : ms' = ms ++ l) (h : ML w0 w' A out' xs' ms') (hg : Go2 A w w' out out') :
    TMPost w0 w A out ms x (.returned (.bool true)) w' := by subst hx; subst hm; exact ⟨rfl, out', xs', h, hg⟩

set_option maxRecDepth 1000000 in
set_option maxHeartbeats 8000000 in
theorem tmarks_c (w0 : World) (Q : Nat → Prop) : ∀ (dd : Nat) (n : PNode) (v : Value), NodeD w0 Q dd v n → ∀ (w : World) (A : Nat) (out : Value) (xs : List Value) (ms : List PMark) (d : Nat), ML w0 w A out xs ms → d ≤ 65 → ms.length + 3 * tsize n ≤ 4194304 →
    Calls Tryz.prog 61 #[v, .int .i64 d, .pointer (some ⟨A, 0, none⟩)] w fun en w' => TMPost w0 w A out ms (tmk n d ms.length) en w' := by
  intro dd
  induction dd with
  | zero => intro n v h; exact False.elim h
  | succ dd ih =>
    intro n v h w A out xs ms d hML hd hz
    obtain ⟨pa, ca, pk, ck, rfl, hca, hck, hA, hK⟩ := h
    obtain ⟨nm, ps, ats, ks, tx⟩ := n
    simp only [PNode.kids, PNode.attrs] at hca hck hA hK
    have hz2 : tsize (.mk nm ps ats ks tx) = 1 + tsizeL ks := by rw [tsize]
    have hkl := tsizeL_len ks
    rw [hz2] at hz
    have hav : AttrsC w0 (.slice pa ats.length ca) ats := ⟨pa, ca, rfl, hca, hA.flat⟩
    show Calls Tryz.prog 61 #[.agg #[.string ⟨nm.toArray⟩, .int .i64 ps, .slice pa ats.length ca, .slice pk ks.length ck, .string ⟨tx.toArray⟩], .int .i64 d, .pointer (some ⟨A, 0, none⟩)] w _
    clear hca hA hz2
    have htk : tmk (.mk nm ps ats ks tx) d ms.length = if 64 < d ∨ 8192 < ms.length ∨ (ks ≠ [] ∧ tx ≠ []) then none
        else if ks = [] ∧ tx = [] then some [⟨4, 0, nm, ats, []⟩]
        else wrapM nm ats tx (tmkL ks (d + 1) (ms.length + 1)) := by unfold tmk; rfl
    rw [htk]
    clear htk
    obtain ⟨c, hc⟩ : ∃ c, c = ks.length := ⟨_, rfl⟩
    obtain ⟨al, hal⟩ : ∃ al, al = ats.length := ⟨_, rfl⟩
    rw [← hc] at hck ⊢
    rw [← hal] at hav ⊢
    have hcl : c ≤ 4194304 := by omega
    obtain ⟨p0, c0, rfl, hc0⟩ := hML.form
    have m0 := hML.c0
    have hAlt := hML.lt
    have hLz : ms.length ≤ 4194304 := by omega
    have hE := Nd5.new w nm ps (.slice pa al ca) (.slice pk c ck) tx
    have hBB : Below w.heap.size w (w.alloc (.cells #[.string ⟨nm.toArray⟩, .int .i64 ps, .slice pa al ca, .slice pk c ck, .string ⟨tx.toArray⟩] 47)) := (Below.refl _ w).alloc (Nat.le_refl _) _
    have hLow : Below A w (w.alloc (.cells #[.string ⟨nm.toArray⟩, .int .i64 ps, .slice pa al ca, .slice pk c ck, .string ⟨tx.toArray⟩] 47)) := hBB.mono (Nat.le_of_lt hAlt)
    have HF := Lib.hid (And.intro ih (And.intro hK (And.intro hML (And.intro hav (And.intro hz (And.intro hc hal)))))); clear ih hK hML hav hz hc hal hkl
    by_cases h1 : 64 < d
    · have hI : (64 : Int) < (d : Int) := by omega
      have HX := Lib.hid (show 64 < d ∨ 8192 < ms.length ∨ ks ≠ [] ∧ tx ≠ [] from .inl h1)
      rw [if_pos HX.out]
      go_enter Tryz.func61, Tryz.ntmps61
      go_wp2_with fail
      go_ret
      exact TMPost.no rfl hLow
    have hI : (d : Int) ≤ 64 := by omega
    by_cases h2 : 8192 < ms.length
    · have hI2 : (8192 : Int) < (ms.length : Int) := by omega
      have HX := Lib.hid (show 64 < d ∨ 8192 < ms.length ∨ ks ≠ [] ∧ tx ≠ [] from .inr (.inl h2))
      rw [if_pos HX.out]
      go_enter Tryz.func61, Tryz.ntmps61
      go_wp2_with fail
      go_ret
      exact TMPost.no rfl hLow
    have hI2 : (ms.length : Int) ≤ 8192 := by omega
    by_cases hks : ks = []
    · have hc0' : c = 0 := by rw [HF.out.2.2.2.2.2.1, hks]; rfl
      subst hc0'
      by_cases htx : tx = []
      · subst htx
        rw [if_neg (show ¬(64 < d ∨ 8192 < ms.length ∨ ks ≠ [] ∧ ([] : Bytes) ≠ []) from fun h => h.elim h1 (fun h => h.elim h2 (fun h => h.2 rfl))), if_pos ⟨hks, rfl⟩]
        obtain ⟨i0, z0, by0, hi0, hz0, hs0, hb0, hy0, hbl⟩ := info_mark
        have IM := Lib.hid (And.intro hi0 (And.intro hz0 (And.intro hs0 (And.intro hb0 hy0)))); clear hi0 hz0 hs0 hb0 hy0
        have hN1 : ms.length + 1 ≤ maxLen := by unfold maxLen; omega
        have hN2 : (ms.length + 1) * by0 ≤ 140737488355328 := Nat.le_trans (Nat.mul_le_mul (show ms.length + 1 ≤ 8388608 by omega) hbl) (by omega)
        have HN := Lib.hid (And.intro hN1 hN2); clear hN1 hN2
        go_enter Tryz.func61, Tryz.ntmps61
        go_wp2_with fail
        obtain ⟨wB, hwB⟩ : ∃ wB, wB = w.alloc (.cells #[.string ⟨nm.toArray⟩, .int .i64 ps, .slice pa al ca, .slice pk 0 ck, .string ⟨#[]⟩] 47) := ⟨_, rfl⟩
        rw [← hwB] at hE hBB hLow ⊢
        have hBs : wB.heap.size = w.heap.size + 1 := by rw [hwB]; simp
        have e0 := hE.c0; have e2 := hE.c2; have e3 := hE.c3; have e4 := hE.c4
        have hT := HF.out.2.2.1.below hBB
        have hAB := hT.lt
        have m1 := hT.c0
        have HT := Lib.hid hT; clear hT
        have HE := Lib.hid (And.intro hE (And.intro hBB (And.intro hLow hBs))); clear hE hBB hLow hBs hwB
        apply join
        · intro key
          go_region_law (refine step_append_at rfl (.tmp 41) (.tmp 47) 35 rfl (A + 1) 41 i0 z0 5 by0 Tryz.underlying35 IM.out.1 IM.out.2.1 IM.out.2.2.1 IM.out.2.2.2.1 IM.out.2.2.2.2 (by decide) (.slice p0 ms.length c0) (ms.length) (xs) (by simp [Act.eval]) (ownsRow_below HT.out.2.1 (((Below.refl _ wB).drew).alloc (Nat.le_refl _) _)) ⟨wB.heap.size, 0, none⟩ 1 1 (mkCell ⟨4, 0, nm, ats, []⟩ (.slice pa al ca)) (by simp [Act.eval]) rfl (cells_new _ _ _) (mkCell_one _ _ rfl) HN.out.1 HN.out.2 (by have := HT.out.lt; simp; omega) ?_; intro v4 w4 hown4 hgrow4 hob4; obtain ⟨g4, cap4, rfl⟩ := row_form hown4; have ha4 := HT.out.after (((Below.refl _ wB).drew).alloc (Nat.le_refl _) _) hgrow4; have hc4 := ha4.2.1; have hf4 := ha4.2.2; have hp4 := HT.out.push (m := ⟨4, 0, nm, ats, []⟩) (av := (.slice pa al ca)) (((Below.refl _ wB).drew).alloc (Nat.le_refl _) _) hgrow4 HF.out.2.2.2.1 hown4 hob4; have HP4 := Lib.hid hp4; clear ha4 hp4 hown4 hgrow4 hob4 )
          all_goals (clear hc4 hf4; revert g4 cap4 w4; exact key.out)
        intro w4 g4 cap4 HP4
        all_goals go_wp2_with fail
        all_goals go_ret
        all_goals exact TMPost.yes rfl rfl HP4.out.1 ((Go2.of_below _ HE.out.2.1 (Nat.le_of_lt hAlt)).trans HP4.out.2)
      · have hT2 : tx.isEmpty = false := by simpa using htx
        have htl : tmkL ks (d + 1) (ms.length + 1) = some [] := by rw [hks]; rfl
        rw [if_neg (show ¬(64 < d ∨ 8192 < ms.length ∨ ks ≠ [] ∧ tx ≠ []) from fun h => h.elim h1 (fun h => h.elim h2 (fun h => h.1 hks))), if_neg (fun h => htx h.2), htl]
        obtain ⟨i0, z0, by0, hi0, hz0, hs0, hb0, hy0, hbl⟩ := info_mark
        have IM := Lib.hid (And.intro hi0 (And.intro hz0 (And.intro hs0 (And.intro hb0 hy0)))); clear hi0 hz0 hs0 hb0 hy0
        have hN1 : ms.length + 1 ≤ maxLen := by unfold maxLen; omega
        have hN2 : (ms.length + 1) * by0 ≤ 140737488355328 := Nat.le_trans (Nat.mul_le_mul (show ms.length + 1 ≤ 8388608 by omega) hbl) (by omega)
        have HN := Lib.hid (And.intro hN1 hN2); clear hN1 hN2
        go_enter Tryz.func61, Tryz.ntmps61
        go_wp2_with fail
        obtain ⟨wB, hwB⟩ : ∃ wB, wB = w.alloc (.cells #[.string ⟨nm.toArray⟩, .int .i64 ps, .slice pa al ca, .slice pk 0 ck, .string ⟨tx.toArray⟩] 47) := ⟨_, rfl⟩
        rw [← hwB] at hE hBB hLow ⊢
        have hBs : wB.heap.size = w.heap.size + 1 := by rw [hwB]; simp
        have e0 := hE.c0; have e2 := hE.c2; have e3 := hE.c3; have e4 := hE.c4
        have hT := HF.out.2.2.1.below hBB
        have hAB := hT.lt
        have m1 := hT.c0
        have HT := Lib.hid hT; clear hT
        have HE := Lib.hid (And.intro hE (And.intro hBB (And.intro hLow hBs))); clear hE hBB hLow hBs hwB
        apply join
        · intro key
          go_region_law (refine step_append_at rfl (.tmp 53) (.tmp 59) 35 rfl (A + 1) 41 i0 z0 5 by0 Tryz.underlying35 IM.out.1 IM.out.2.1 IM.out.2.2.1 IM.out.2.2.2.1 IM.out.2.2.2.2 (by decide) (.slice p0 ms.length c0) (ms.length) (xs) (by simp [Act.eval]) (ownsRow_below HT.out.2.1 (((Below.refl _ wB).drew).alloc (Nat.le_refl _) _)) ⟨wB.heap.size, 0, none⟩ 1 1 (mkCell ⟨1, 0, nm, ats, []⟩ (.slice pa al ca)) (by simp [Act.eval]) rfl (cells_new _ _ _) (mkCell_one _ _ rfl) HN.out.1 HN.out.2 (by have := HT.out.lt; simp; omega) ?_; intro v4 w4 hown4 hgrow4 hob4; obtain ⟨g4, cap4, rfl⟩ := row_form hown4; have ha4 := HT.out.after (((Below.refl _ wB).drew).alloc (Nat.le_refl _) _) hgrow4; have hc4 := ha4.2.1; have hf4 := ha4.2.2; have hp4 := HT.out.push (m := ⟨1, 0, nm, ats, []⟩) (av := (.slice pa al ca)) (((Below.refl _ wB).drew).alloc (Nat.le_refl _) _) hgrow4 HF.out.2.2.2.1 hown4 hob4; have HP4 := Lib.hid hp4; clear ha4 hp4 hown4 hgrow4 hob4 )
          all_goals (clear hc4 hf4; revert g4 cap4 w4; exact key.out)
        intro w4 g4 cap4 HP4
        obtain ⟨wo, hwo⟩ : ∃ wo, wo = w4.setCell ⟨A, 0, none⟩ (.slice (some ⟨g4, 0, none⟩) (ms.length + 1) cap4) := ⟨_, rfl⟩
        have hml4 := HP4.out.1; have hg4 := HP4.out.2
        rw [← hwo] at hml4 hg4 ⊢
        clear HP4 hwo
        obtain ⟨msA, hmsA⟩ : ∃ l, l = ms ++ [⟨1, 0, nm, ats, []⟩] := ⟨_, rfl⟩
        obtain ⟨xsA, hxsA⟩ : ∃ l, l = xs ++ mkCell ⟨1, 0, nm, ats, []⟩ (.slice pa al ca) := ⟨_, rfl⟩
        rw [← hmsA, ← hxsA] at hml4; clear hxsA
        have hlA : msA.length = ms.length + 1 := by rw [hmsA]; simp
        have hlA1 : msA.length ≤ ms.length + 1 := by omega
        have hlA2 : ms.length + 1 ≤ msA.length := by omega
        have HLA := Lib.hid hlA; clear hlA
        have hBne : some w.heap.size ≠ (Value.slice p0 ms.length c0).ownBlock := fun e => by have := (HF.out.2.2.1.own_lt e.symm).2; omega
        have hBA : w.heap.size ≠ A := by omega
        have hBo := own_ne hg4 (by have := HE.out.2.2.2; omega) hBne
        have hEo := HE.out.1.go2 hg4 hBA hBne
        clear e0 e2 e3 e4 m1 hAB
        have e0 := hEo.c0; have e2 := hEo.c2; have e3 := hEo.c3; have e4 := hEo.c4
        have m1 := hml4.c0
        have hAB := hml4.lt
        have HT4 := Lib.hid hml4; clear hml4
        have HG4 := Lib.hid (And.intro hg4 (And.intro hEo (And.intro hBo (And.intro hBA hmsA)))); clear hg4 hEo hBo hBne hBA hmsA
        go_wp2_with fail
        go_loopg [65] 0 (fun g i wr => wr = wo ∧ i = .int .i64 0)
        case atStart => exact ⟨rfl, rfl⟩
        case round =>
          obtain ⟨hwr, rfl⟩ := hrel
          rw [hwr]
          clear hwr
          have hN1 : msA.length + 1 ≤ maxLen := by unfold maxLen; omega
          have hN2 : (msA.length + 1) * by0 ≤ 140737488355328 := Nat.le_trans (Nat.mul_le_mul (show msA.length + 1 ≤ 8388608 by omega) hbl) (by omega)
          have HN5 := Lib.hid (And.intro hN1 hN2); clear hN1 hN2
          go_wp2_with fail
          apply join
          · intro key
            go_region_law (refine step_append_at rfl (.tmp 82) (.tmp 86) 35 rfl (A + 1) 41 i0 z0 5 by0 Tryz.underlying35 IM.out.1 IM.out.2.1 IM.out.2.2.1 IM.out.2.2.2.1 IM.out.2.2.2.2 (by decide) (.slice (some ⟨g4, 0, none⟩) (ms.length + 1) cap4) (msA.length) (xsA) (by simp [Act.eval]) (ownsRow_below HT4.out.2.1 (((Below.refl _ wo).drew).alloc (Nat.le_refl _) _)) ⟨wo.heap.size, 0, none⟩ 1 1 (mkCell ⟨3, 0, [], [], tx⟩ (.slice none 0 0)) (by simp [Act.eval]) rfl (cells_new _ _ _) (mkCell_one _ _ rfl) HN5.out.1 HN5.out.2 (by have := HT4.out.lt; simp; omega) ?_; intro v5 w5 hown5 hgrow5 hob5; obtain ⟨g5, cap5, rfl⟩ := row_form hown5; have ha5 := HT4.out.after (((Below.refl _ wo).drew).alloc (Nat.le_refl _) _) hgrow5; have hc5 := ha5.2.1; have hf5 := ha5.2.2; have hp5 := HT4.out.push (m := ⟨3, 0, [], [], tx⟩) (av := (.slice none 0 0)) (((Below.refl _ wo).drew).alloc (Nat.le_refl _) _) hgrow5 ⟨none, 0, rfl, Nat.le_refl _, fun j hj => absurd hj (by simp)⟩ hown5 hob5; have HP5 := Lib.hid hp5; clear ha5 hp5 hown5 hgrow5 hob5 )
            all_goals (clear hc5 hf5; revert g5 cap5 w5; exact key.out)
          intro w5 g5 cap5 HP5
          obtain ⟨wo5, hwo5⟩ : ∃ wo, wo = w5.setCell ⟨A, 0, none⟩ (.slice (some ⟨g5, 0, none⟩) (msA.length + 1) cap5) := ⟨_, rfl⟩
          have hml5 := HP5.out.1; have hg5 := HP5.out.2
          rw [← hwo5] at hml5 hg5 ⊢
          clear HP5 hwo5
          obtain ⟨msB, hmsB⟩ : ∃ l, l = msA ++ [⟨3, 0, [], [], tx⟩] := ⟨_, rfl⟩
          obtain ⟨xmsB, hxmsB⟩ : ∃ l, l = xsA ++ mkCell ⟨3, 0, [], [], tx⟩ (.slice none 0 0) := ⟨_, rfl⟩
          rw [← hmsB, ← hxmsB] at hml5; clear hxmsB
          have hlmsB : msB.length ≤ msA.length + 1 := by rw [hmsB]; simp
          have hEo := HG4.out.2.1.go2 hg5 HG4.out.2.2.2.1 HG4.out.2.2.1
          clear e0 e2 e3 e4 m1 hAB
          have e0 := hEo.c0; have e2 := hEo.c2; have e3 := hEo.c3; have e4 := hEo.c4
          have m1 := hml5.c0
          have hAB := hml5.lt
          have HT5 := Lib.hid hml5; clear hml5
          have HG5 := Lib.hid (And.intro hg5 hmsB); clear hg5 hEo hmsB
          have hN1 : msB.length + 1 ≤ maxLen := by unfold maxLen; omega
          have hN2 : (msB.length + 1) * by0 ≤ 140737488355328 := Nat.le_trans (Nat.mul_le_mul (show msB.length + 1 ≤ 8388608 by omega) hbl) (by omega)
          have HN6 := Lib.hid (And.intro hN1 hN2); clear hN1 hN2
          go_wp2_with fail
          apply join
          · intro key
            go_region_law (refine step_append_at rfl (.tmp 92) (.tmp 96) 35 rfl (A + 1) 41 i0 z0 5 by0 Tryz.underlying35 IM.out.1 IM.out.2.1 IM.out.2.2.1 IM.out.2.2.2.1 IM.out.2.2.2.2 (by decide) (.slice (some ⟨g5, 0, none⟩) (msA.length + 1) cap5) (msB.length) (xmsB) (by simp [Act.eval]) (ownsRow_below HT5.out.2.1 (((Below.refl _ wo5).drew).alloc (Nat.le_refl _) _)) ⟨wo5.heap.size, 0, none⟩ 1 1 (mkCell ⟨2, 0, nm, [], []⟩ (.slice none 0 0)) (by simp [Act.eval]) rfl (cells_new _ _ _) (mkCell_one _ _ rfl) HN6.out.1 HN6.out.2 (by have := HT5.out.lt; simp; omega) ?_; intro v6 w6 hown6 hgrow6 hob6; obtain ⟨g6, cap6, rfl⟩ := row_form hown6; have ha6 := HT5.out.after (((Below.refl _ wo5).drew).alloc (Nat.le_refl _) _) hgrow6; have hc6 := ha6.2.1; have hf6 := ha6.2.2; have hp6 := HT5.out.push (m := ⟨2, 0, nm, [], []⟩) (av := (.slice none 0 0)) (((Below.refl _ wo5).drew).alloc (Nat.le_refl _) _) hgrow6 ⟨none, 0, rfl, Nat.le_refl _, fun j hj => absurd hj (by simp)⟩ hown6 hob6; have HP6 := Lib.hid hp6; clear ha6 hp6 hown6 hgrow6 hob6 )
            all_goals (clear hc6 hf6; revert g6 cap6 w6; exact key.out)
          intro w6 g6 cap6 HP6
          go_wp2_with fail
          go_ret
          exact TMPost.yes rfl (by rw [HG5.out.2, HG4.out.2.2.2.2, if_neg htx]; simp) HP6.out.1 ((((Go2.of_below _ HE.out.2.1 (Nat.le_of_lt hAlt)).trans HG4.out.1).trans HG5.out.1).trans HP6.out.2)
    · by_cases htx : tx = []
      · subst htx
        have hcp : 0 < c := by rw [HF.out.2.2.2.2.2.1]; exact List.length_pos_iff.2 hks
        have hcI : (0 : Int) < (c : Int) := by omega
        rw [if_neg (show ¬(64 < d ∨ 8192 < ms.length ∨ ks ≠ [] ∧ ([] : Bytes) ≠ []) from fun h => h.elim h1 (fun h => h.elim h2 (fun h => h.2 rfl))), if_neg (fun h => hks h.1)]
        obtain ⟨X, hX⟩ : ∃ X, X = tmkL ks (d + 1) (ms.length + 1) := ⟨_, rfl⟩
        rw [← hX]
        have HX := Lib.hid hX; clear hX
        obtain ⟨i0, z0, by0, hi0, hz0, hs0, hb0, hy0, hbl⟩ := info_mark
        have IM := Lib.hid (And.intro hi0 (And.intro hz0 (And.intro hs0 (And.intro hb0 hy0)))); clear hi0 hz0 hs0 hb0 hy0
        have hN1 : ms.length + 1 ≤ maxLen := by unfold maxLen; omega
        have hN2 : (ms.length + 1) * by0 ≤ 140737488355328 := Nat.le_trans (Nat.mul_le_mul (show ms.length + 1 ≤ 8388608 by omega) hbl) (by omega)
        have HN := Lib.hid (And.intro hN1 hN2); clear hN1 hN2
        go_enter Tryz.func61, Tryz.ntmps61
        go_wp2_with fail
        obtain ⟨wB, hwB⟩ : ∃ wB, wB = w.alloc (.cells #[.string ⟨nm.toArray⟩, .int .i64 ps, .slice pa al ca, .slice pk c ck, .string ⟨#[]⟩] 47) := ⟨_, rfl⟩
        rw [← hwB] at hE hBB hLow ⊢
        have hBs : wB.heap.size = w.heap.size + 1 := by rw [hwB]; simp
        have e0 := hE.c0; have e2 := hE.c2; have e3 := hE.c3; have e4 := hE.c4
        have hT := HF.out.2.2.1.below hBB
        have hAB := hT.lt
        have m1 := hT.c0
        have HT := Lib.hid hT; clear hT
        have HE := Lib.hid (And.intro hE (And.intro hBB (And.intro hLow hBs))); clear hE hBB hLow hBs hwB
        apply join
        · intro key
          go_region_law (refine step_append_at rfl (.tmp 53) (.tmp 59) 35 rfl (A + 1) 41 i0 z0 5 by0 Tryz.underlying35 IM.out.1 IM.out.2.1 IM.out.2.2.1 IM.out.2.2.2.1 IM.out.2.2.2.2 (by decide) (.slice p0 ms.length c0) (ms.length) (xs) (by simp [Act.eval]) (ownsRow_below HT.out.2.1 (((Below.refl _ wB).drew).alloc (Nat.le_refl _) _)) ⟨wB.heap.size, 0, none⟩ 1 1 (mkCell ⟨1, 0, nm, ats, []⟩ (.slice pa al ca)) (by simp [Act.eval]) rfl (cells_new _ _ _) (mkCell_one _ _ rfl) HN.out.1 HN.out.2 (by have := HT.out.lt; simp; omega) ?_; intro v4 w4 hown4 hgrow4 hob4; obtain ⟨g4, cap4, rfl⟩ := row_form hown4; have ha4 := HT.out.after (((Below.refl _ wB).drew).alloc (Nat.le_refl _) _) hgrow4; have hc4 := ha4.2.1; have hf4 := ha4.2.2; have hp4 := HT.out.push (m := ⟨1, 0, nm, ats, []⟩) (av := (.slice pa al ca)) (((Below.refl _ wB).drew).alloc (Nat.le_refl _) _) hgrow4 HF.out.2.2.2.1 hown4 hob4; have HP4 := Lib.hid hp4; clear ha4 hp4 hown4 hgrow4 hob4 )
          all_goals (clear hc4 hf4; revert g4 cap4 w4; exact key.out)
        intro w4 g4 cap4 HP4
        obtain ⟨wo, hwo⟩ : ∃ wo, wo = w4.setCell ⟨A, 0, none⟩ (.slice (some ⟨g4, 0, none⟩) (ms.length + 1) cap4) := ⟨_, rfl⟩
        have hml4 := HP4.out.1; have hg4 := HP4.out.2
        rw [← hwo] at hml4 hg4 ⊢
        clear HP4 hwo
        obtain ⟨msA, hmsA⟩ : ∃ l, l = ms ++ [⟨1, 0, nm, ats, []⟩] := ⟨_, rfl⟩
        obtain ⟨xsA, hxsA⟩ : ∃ l, l = xs ++ mkCell ⟨1, 0, nm, ats, []⟩ (.slice pa al ca) := ⟨_, rfl⟩
        rw [← hmsA, ← hxsA] at hml4; clear hxsA
        have hlA : msA.length = ms.length + 1 := by rw [hmsA]; simp
        have hlA1 : msA.length ≤ ms.length + 1 := by omega
        have hlA2 : ms.length + 1 ≤ msA.length := by omega
        have HLA := Lib.hid hlA; clear hlA
        have hBne : some w.heap.size ≠ (Value.slice p0 ms.length c0).ownBlock := fun e => by have := (HF.out.2.2.1.own_lt e.symm).2; omega
        have hBA : w.heap.size ≠ A := by omega
        have hBo := own_ne hg4 (by have := HE.out.2.2.2; omega) hBne
        have hEo := HE.out.1.go2 hg4 hBA hBne
        clear e0 e2 e3 e4 m1 hAB
        have e0 := hEo.c0; have e2 := hEo.c2; have e3 := hEo.c3; have e4 := hEo.c4
        have m1 := hml4.c0
        have hAB := hml4.lt
        have HT4 := Lib.hid hml4; clear hml4
        have HG4 := Lib.hid (And.intro hg4 (And.intro hEo (And.intro hBo (And.intro hBA hmsA)))); clear hg4 hEo hBo hBne hBA hmsA
        go_wp2_with fail
        go_loopg [65] c (fun g i wr => ∃ (k : Nat) (out : Value) (ys : List Value) (l : List PMark), k ≤ c ∧ g = c - k ∧ i = .int .i64 k ∧ ML w0 wr A out ys (msA ++ l) ∧ Go2 A wo wr (.slice (some ⟨g4, 0, none⟩) (ms.length + 1) cap4) out ∧
          X = (tmkL (ks.drop k) (d + 1) (ms.length + 1 + l.length)).map (fun x => l ++ x) ∧ msA.length + l.length + 3 * tsizeL (ks.drop k) + 1 ≤ 4194304)
        case atStart => exact ⟨0, _, xsA, [], Nat.zero_le _, rfl, rfl, by rw [List.append_nil]; exact HT4.out, Go2.of_below _ (Below.refl _ _) (Nat.le_of_lt hAB), by rw [HX.out]; simp, by have := HF.out.2.2.2.2.1; simp only [List.length_nil, List.drop_zero]; omega⟩
        case round =>
          obtain ⟨k, out, ys, l, hk, hg, rfl, hml, hgo, hx, hz⟩ := hrel
          obtain ⟨mq, hmq⟩ : ∃ q, q = msA ++ l := ⟨_, rfl⟩
          rw [← hmq] at hml
          obtain ⟨p1, c1, rfl, hc1⟩ := hml.form
          have m2 := hml.c0
          have hAr := hml.lt
          have hL : mq.length = ms.length + 1 + l.length := by rw [hmq, List.length_append, HLA.out]
          by_cases hlt : k < c
          · have hkI : (k : Int) < (c : Int) := by omega
            have hka : k < ks.length := by rw [← HF.out.2.2.2.2.2.1]; exact hlt
            rw [List.drop_eq_getElem_cons hka] at hx hz
            have hlw := hml.2.2.2.1
            obtain ⟨g0, o0, pa1, ca1, pk1, ck1, rfl, _, b0, b1, b2, b3, b4, hN⟩ := HF.out.2.1.get k hka
            have a0 := cell_keep hlw b0; have a1 := cell_keep hlw b1; have a2 := cell_keep hlw b2; have a3 := cell_keep hlw b3; have a4 := cell_keep hlw b4
            clear b0 b1 b2 b3 b4
            generalize ks[k]'hka = m at *
            rw [tsizeL] at hz
            have hcall := fun W (hW : Below wr.heap.size wr W) => HF.out.1 m _ hN W A _ ys mq (d + 1) (hml.below hW) (by omega) (by omega)
            have hcall2 : ∀ W, Below wr.heap.size wr W → Calls Tryz.prog 61 #[nodeV m pa1 ca1 pk1 ck1, .int .i64 ((d + 1 : Nat) : Int), .pointer (some ⟨A, 0, none⟩)] W fun en w' => TMPost w0 W A (.slice p1 mq.length c1) mq (tmk m (d + 1) (ms.length + 1 + l.length)) en w' := fun W hW => by have := hcall W hW; rw [show tmk m (d + 1) mq.length = tmk m (d + 1) (ms.length + 1 + l.length) from by rw [hL]] at this; exact this
            clear hcall
            have hcall := hcall2; clear hcall2
            rw [show ((d + 1 : Nat) : Int) = (d : Int) + 1 from by omega] at hcall
            cases hm : tmk m (d + 1) (ms.length + 1 + l.length) with
            | none =>
              rw [hm] at hcall
              rw [tmkL_none hm] at hx
              have hx : X = none := hx
              have HC := Lib.hid hcall; clear hcall hN hm
              have HB := Lib.hid (And.intro hgo (And.intro hml hx)); clear hgo hml hx hg hz hlw hL hmq
              go_wp2_with (first
                | (go_at_call 61; refine (HC.out _ ((Below.refl _ wr).alloc (Nat.le_refl _) _)).mono ?_; rintro en w2 ⟨rfl, b2⟩))
              go_ret
              exact TMPost.no (by rw [HB.out.2.2]; rfl) ((((HE.out.2.2.1.trans HG4.out.1.low).trans HB.out.1.low).trans ((Below.refl _ wr).alloc (Nat.le_of_lt hAr) _)).trans b2)
            | some l2 =>
              rw [hm] at hcall
              rw [tmkL_step hm] at hx
              have hl2 := (tmk_len m _ _ _ hm).1
              have HC := Lib.hid hcall; clear hcall hN hm
              have HB := Lib.hid (And.intro hgo (And.intro hml (And.intro hx (And.intro hz (And.intro hg (And.intro hl2 hmq)))))); clear hgo hml hx hg hz hlw hL hl2 hmq
              go_wp2_with (first
                | (go_at_call 61; refine (HC.out _ ((Below.refl _ wr).alloc (Nat.le_refl _) _)).mono ?_; rintro en w2 ⟨rfl, out2, ys2, hml2, hg2⟩))
              go_roundg (c - (k + 1))
              case measure => have := HB.out.2.2.2.2.1; omega
              case rel =>
                exact ⟨k + 1, out2, ys2, l ++ l2, by omega, rfl, by go_num, by rw [← List.append_assoc, ← HB.out.2.2.2.2.2.2]; exact hml2, (HB.out.1.trans (Go2.of_below _ ((Below.refl _ wr).alloc (Nat.le_refl _) _) (Nat.le_of_lt hAr))).trans hg2, HB.out.2.2.1, by have h1 := HB.out.2.2.2.1; have h2 := HB.out.2.2.2.2.2.1; rw [List.length_append]; omega⟩
          · obtain rfl : k = c := by omega
            have hd0 : ks.drop k = [] := by rw [HF.out.2.2.2.2.2.1]; exact List.drop_length
            rw [hd0] at hx
            have hx : X = some (l ++ []) := hx
            rw [List.append_nil] at hx
            have hkI : decide ((k : Int) < (k : Int)) = false := by simp
            have hEr := HG4.out.2.1.go2 hgo HG4.out.2.2.2.1 HG4.out.2.2.1
            clear e0 e2 e3 e4 m1
            have e0 := hEr.c0; have e2 := hEr.c2; have e3 := hEr.c3; have e4 := hEr.c4
            have hz2 : mq.length + 1 ≤ 4194304 := by omega
            have hN1 : mq.length + 1 ≤ maxLen := by unfold maxLen; omega
            have hN2 : (mq.length + 1) * by0 ≤ 140737488355328 := Nat.le_trans (Nat.mul_le_mul (show mq.length + 1 ≤ 8388608 by omega) hbl) (by omega)
            have HN6 := Lib.hid (And.intro hN1 hN2); clear hN1 hN2
            have HT5 := Lib.hid hml
            have HB := Lib.hid (And.intro hgo (And.intro hx hmq)); clear hgo hml hx hg hz hEr hL hz2 hmq
            go_wp2_with fail
            apply join
            · intro key
              go_region_law (refine step_append_at rfl (.tmp 92) (.tmp 96) 35 rfl (A + 1) 41 i0 z0 5 by0 Tryz.underlying35 IM.out.1 IM.out.2.1 IM.out.2.2.1 IM.out.2.2.2.1 IM.out.2.2.2.2 (by decide) (.slice p1 mq.length c1) (mq.length) (ys) (by simp [Act.eval]) (ownsRow_below HT5.out.2.1 (((Below.refl _ wr).drew).alloc (Nat.le_refl _) _)) ⟨wr.heap.size, 0, none⟩ 1 1 (mkCell ⟨2, 0, nm, [], []⟩ (.slice none 0 0)) (by simp [Act.eval]) rfl (cells_new _ _ _) (mkCell_one _ _ rfl) HN6.out.1 HN6.out.2 (by have := HT5.out.lt; simp; omega) ?_; intro v6 w6 hown6 hgrow6 hob6; obtain ⟨g6, cap6, rfl⟩ := row_form hown6; have ha6 := HT5.out.after (((Below.refl _ wr).drew).alloc (Nat.le_refl _) _) hgrow6; have hc6 := ha6.2.1; have hf6 := ha6.2.2; have hp6 := HT5.out.push (m := ⟨2, 0, nm, [], []⟩) (av := (.slice none 0 0)) (((Below.refl _ wr).drew).alloc (Nat.le_refl _) _) hgrow6 ⟨none, 0, rfl, Nat.le_refl _, fun j hj => absurd hj (by simp)⟩ hown6 hob6; have HP6 := Lib.hid hp6; clear ha6 hp6 hown6 hgrow6 hob6 )
              all_goals (clear hc6 hf6; revert g6 cap6 w6; exact key.out)
            intro w6 g6 cap6 HP6
            go_wp2_with fail
            go_ret
            exact TMPost.yes (by rw [HB.out.2.1]; rfl) (by rw [HB.out.2.2, HG4.out.2.2.2.2]; simp) HP6.out.1 ((((Go2.of_below _ HE.out.2.1 (Nat.le_of_lt hAlt)).trans HG4.out.1).trans HB.out.1).trans HP6.out.2)
      · have hcp : 0 < c := by rw [HF.out.2.2.2.2.2.1]; exact List.length_pos_iff.2 hks
        have hcI : (0 : Int) < (c : Int) := by omega
        have hT2 : tx.isEmpty = false := by simpa using htx
        have HX := Lib.hid (show 64 < d ∨ 8192 < ms.length ∨ ks ≠ [] ∧ tx ≠ [] from .inr (.inr ⟨hks, htx⟩))
        rw [if_pos HX.out]
        go_enter Tryz.func61, Tryz.ntmps61
        go_wp2_with fail
        go_ret
        exact TMPost.no rfl hLow
end Go.Proofs.YtcicibeggkmlcaaGreatDoor
