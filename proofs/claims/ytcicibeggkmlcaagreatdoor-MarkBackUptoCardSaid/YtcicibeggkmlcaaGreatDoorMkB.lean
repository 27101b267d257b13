/- Marks in memory; the reader's list of marks, al it grows. Conditions: each theorem's own premises. -/
import Derived.Test.YtcicibeggkmlcaaGreatDoorMkA
import Derived.Deep.RegionLaw
namespace Go.Proofs.YtcicibeggkmlcaaGreatDoor
open Go.RowKit Go.Sof

/-! ### attributes and marks in memory -/
def attrCell (a : PAttr) : List Value := [.string ⟨a.name.toArray⟩, .string ⟨a.value.toArray⟩]
def attrCells (al : List PAttr) : List Value := al.flatMap attrCell
/-- attributes in a block of their own type. -/
def AttrsO (w : World) (v : Value) (al : List PAttr) : Prop :=
  (al = [] ∧ v = .slice none 0 0) ∨
  ∃ b o c cur fz, v = .slice (some ⟨b, o, none⟩) al.length c ∧ w.heap[b]? = some (.cells cur 58 fz) ∧ ∀ j u, (attrCells al)[j]? = some u → cur[o + j]? = some u
def mkCell (m : PMark) (av : Value) : List Value := [.int .i64 m.kind, .int .i64 m.pos, .string ⟨m.name.toArray⟩, av, .string ⟨m.text.toArray⟩]
def MarksO (w : World) : List PMark → List Value → Prop
  | [], xs => xs = []
  | m :: r, xs => ∃ av ys, xs = mkCell m av ++ ys ∧ AttrsO w av m.attrs ∧ MarksO w r ys

theorem attrCells_len : ∀ al : List PAttr, (attrCells al).length = al.length * 2
  | [] => rfl
  | a :: r => by simp only [attrCells, List.flatMap_cons, List.length_append, List.length_cons] at *; have := attrCells_len r; simp only [attrCells] at this; rw [this]; simp [attrCell]; omega
theorem MarksO.len {w : World} : ∀ {ms : List PMark} {xs : List Value}, MarksO w ms xs → xs.length = ms.length * 5
  | [], xs, h => by have h' : xs = [] := h; subst h'; rfl
  | m :: r, xs, h => by
    obtain ⟨av, ys, rfl, _, h3⟩ := h
    have := MarksO.len h3
    simp [mkCell, this]; omega
theorem MarksO.snoc {w : World} : ∀ {ms : List PMark} {xs : List Value} {m : PMark} {av : Value}, MarksO w ms xs → AttrsO w av m.attrs → MarksO w (ms ++ [m]) (xs ++ mkCell m av)
  | [], xs, m, av, h, ha => by have h' : xs = [] := h; subst h'; exact ⟨av, [], by simp, ha, rfl⟩
  | m0 :: r, xs, m, av, h, ha => by
    obtain ⟨av0, ys, rfl, h2, h3⟩ := h
    exact ⟨av0, ys ++ mkCell m av, by simp, h2, h3.snoc ha⟩

/-- what holds attributes stays al it is. -/
def Keep (w w' : World) : Prop := ∀ (b : Nat) (cur : Array Value) (fz : Nat × Nat), w.heap[b]? = some (.cells cur 58 fz) → w'.heap[b]? = w.heap[b]?
theorem Keep.refl (w : World) : Keep w w := fun _ _ _ _ => rfl
theorem Keep.trans {a b c : World} (h : Keep a b) (k : Keep b c) : Keep a c := fun x cur fz hx => by rw [k x cur fz (by rw [h x cur fz hx]; exact hx)]; exact h x cur fz hx
theorem Keep.below {w w' : World} (h : Below w.heap.size w w') : Keep w w' := fun _ _ _ hx => h.block _ (Array.getElem?_eq_some_iff.1 hx).1
theorem Keep.grown {w w' : World} {row : Option Nat} (h : w.grownBy w' row) (hr : ∀ k, row = some k → ∃ cur t fz, w.heap[k]? = some (.cells cur t fz) ∧ t ≠ 58) : Keep w w' := fun b cur fz hx =>
  h.block b (Array.getElem?_eq_some_iff.1 hx).1 (fun e => by
    obtain ⟨cur', t, fz', h1, h2⟩ := hr b e.symm
    rw [hx] at h1
    simp only [Option.some.injEq, Obj.cells.injEq] at h1
    exact h2 h1.2.1.symm)
theorem Keep.rd {w w' : World} {R : Nat} {s : ByteArray} {p : Nat} {out : Value} {fr e : Int} (h : Rd w R s p out fr e) (hg : w.grownBy w' (some R)) : Keep w w' :=
  Keep.grown hg (fun k hk => by cases hk; exact ⟨_, _, _, h, by decide⟩)
theorem AttrsO.keep {w w' : World} {v : Value} {al : List PAttr} (h : AttrsO w v al) (hk : Keep w w') : AttrsO w' v al := by
  rcases h with h | ⟨b, o, c, cur, fz, h1, h2, h3⟩
  · exact .inl h
  · exact .inr ⟨b, o, c, cur, fz, h1, (hk b cur fz h2).trans h2, h3⟩
theorem MarksO.keep {w w' : World} (hk : Keep w w') : ∀ {ms : List PMark} {xs : List Value}, MarksO w ms xs → MarksO w' ms xs
  | [], _, h => h
  | _ :: _, _, h => by
    obtain ⟨av, ys, h1, h2, h3⟩ := h
    exact ⟨av, ys, h1, h2.keep hk, h3.keep hk⟩

/-- what the reader has. -/
def RS (w : World) (R : Nat) (s : ByteArray) (p : Nat) (ms : List PMark) : Prop :=
  ∃ out xs, Rd w R s p out 0 0 ∧ w.ownsRow (R + 1) 41 5 out ms.length xs ∧ MarksO w ms xs ∧ ms.length ≤ p
/-- where it failed. -/
def RF (w : World) (R : Nat) (s : ByteArray) (k : Nat) (e : Int) : Prop := ∃ p out, Rd w R s p out k e

theorem own_block {w : World} {B e size n : Nat} {v : Value} {xs : List Value} (h : w.ownsRow B e size v n xs) : ∀ k, v.ownBlock = some k → B ≤ k ∧ ∃ cur, w.heap[k]? = some (.cells cur e (0, 0)) := by
  intro k hk
  rcases h.2 with ⟨hv, _⟩ | ⟨g, cap, cur, hv, hb, hg, _⟩
  · rw [hv] at hk; simp [Value.ownBlock] at hk
  · rw [hv] at hk; simp only [Value.ownBlock, Option.some.injEq] at hk; subst hk; exact ⟨hb, cur, hg⟩
theorem ownsRow_keep {w w' : World} {B e size n : Nat} {v : Value} {xs : List Value} (h : w.ownsRow B e size v n xs) (hk : ∀ k, v.ownBlock = some k → w'.heap[k]? = w.heap[k]?) : w'.ownsRow B e size v n xs := by
  refine ⟨h.1, h.2.imp id ?_⟩
  rintro ⟨g, cap, cur, hv, hb, hg, hr⟩
  exact ⟨g, cap, cur, hv, hb, (hk g (by rw [hv]; rfl)).trans hg, hr⟩
theorem RS.grownR {w w' : World} {R p q : Nat} {s : ByteArray} {ms : List PMark} {out : Value} {xs : List Value} (h0 : Rd w R s p out 0 0) (h1 : w.ownsRow (R + 1) 41 5 out ms.length xs) (h2 : MarksO w ms xs)
    (hg : w.grownBy w' (some R)) (h3 : Rd w' R s q out 0 0) (hq : ms.length ≤ q) : RS w' R s q ms :=
  ⟨out, xs, h3, ownsRow_keep h1 (fun k hk => hg.block k (by have := (own_block h1 k hk).2; obtain ⟨cur, hc⟩ := this; exact (Array.getElem?_eq_some_iff.1 hc).1) (fun e => by cases e; have := (own_block h1 R hk).1; omega)), h2.keep (Keep.rd h0 hg), hq⟩

theorem A_infoM : (Tryz.prog.info? 41).map (fun i => (i.zero.map (fun z => z.cells.size), i.size, decide (i.bytes ≤ 128))) = some (some 5, 5, true) := by kernel_rfl

/-- append to a row of the call's own, al a step of a region. -/
theorem step_append_own {P : Program} {ops : Array Oper} {o : Oper} {a : Act} {w : World} {K : Act → World → Prop} {Q : Exit → Act → World → Prop} {E : Prop}
    (hg : o.guard = none) (s x : Operand) (t : TypeId) (hop : o.op = Op.call { callee := Callee.builtin Builtin.append, args := #[s, x], argTypes := #[t, t] })
    (base : Nat) (e : TypeId) (i : TypeInfo) (z : Value) (size bytes : Nat) (h1 : P.underlying t = some (.slice e)) (h2 : P.info? e = some i) (h3 : i.zero = some z) (h4 : i.size = size) (h5 : i.bytes = bytes) (h6 : z.cells.size = size) (h7 : 0 < size)
    (v : Value) (n : Nat) (xs : List Value) (hs : a.eval s = v) (hown : w.ownsRow base e size v n xs)
    (ad : Addr) (m c : Nat) (news : List Value) (hx : a.eval x = .slice (some ad) m c) (hn : news.length = m * size) (hc : ∀ j u, news[j]? = some u → w.cell? (ad.add j) = some u) (h1c : ∀ u ∈ news, u.oneCell' = true)
    (b1 : n + m ≤ maxLen) (b2 : (n + m) * bytes ≤ 140737488355328) (hbase : base ≤ w.heap.size)
    (hK : ∀ v' w', w'.ownsRow base e size v' (n + m) (xs ++ news) → w.grownBy w' v.ownBlock → K (a.put o.dst v') w') :
    if Region.wanted o (yielded ops a.tmps) = true then Oper.wp P o a w K Q else E := by
  have hw : Region.wanted o (yielded ops a.tmps) = true := by simp [Region.wanted, hg]
  rw [if_pos hw]
  obtain ⟨v', w', hrun, r1, r2, _⟩ := run_append_own (P := P) w base t o.type e i z size bytes h1 h2 h3 h4 h5 h6 h7 v n xs hown ad m c news hn hc h1c b1 b2 hbase
  unfold Oper.wp
  simp [execOp, hop, resolve, invoke, builtin, hs, hx, hrun, Result.andThen]
  exact hK v' w' r1 r2

theorem adr_add (b o j : Nat) : (⟨b, o, none⟩ : Addr).add j = ⟨b, o + j, none⟩ := by unfold Addr.add; split <;> simp_all
theorem cells_new (w : World) (cs : Array Value) (t : TypeId) : ∀ (j : Nat) (u : Value), cs.toList[j]? = some u → (w.alloc (.cells cs t)).cell? ((⟨w.heap.size, 0, none⟩ : Addr).add j) = some u := by
  intro j u hj
  rw [adr_add]; unfold World.cell?; simp only [heap_alloc_new]
  rw [Array.getElem?_toList] at hj
  simpa using hj
theorem row_form {w : World} {B e size n : Nat} {v : Value} {xs : List Value} (h : w.ownsRow B e size v (n + 1) xs) : ∃ g cap, v = .slice (some ⟨g, 0, none⟩) (n + 1) cap := by
  rcases h.2 with ⟨_, h0⟩ | ⟨g, cap, _, hv, _⟩
  · omega
  · exact ⟨g, cap, hv⟩
theorem ownsRow_below {w w' : World} {B e size n : Nat} {v : Value} {xs : List Value} (h : w.ownsRow B e size v n xs) (hb : Below w.heap.size w w') : w'.ownsRow B e size v n xs :=
  ownsRow_keep h (fun k hk => hb.block k (by obtain ⟨cur, hc⟩ := (own_block h k hk).2; exact (Array.getElem?_eq_some_iff.1 hc).1))

/-- the reader with its list laid open. -/
def RT (w : World) (R : Nat) (s : ByteArray) (p : Nat) (out : Value) (xs : List Value) (ms : List PMark) : Prop :=
  Rd w R s p out 0 0 ∧ w.ownsRow (R + 1) 41 5 out ms.length xs ∧ MarksO w ms xs
theorem RT.below {w w' : World} {R : Nat} {s : ByteArray} {p : Nat} {out : Value} {xs : List Value} {ms : List PMark} (h : RT w R s p out xs ms) (hb : Below w.heap.size w w') : RT w' R s p out xs ms :=
  ⟨h.1.below hb, ownsRow_below h.2.1 hb, h.2.2.keep (Keep.below hb)⟩
theorem RT.drewN {w : World} {R : Nat} {s : ByteArray} {p : Nat} {out : Value} {xs : List Value} {ms : List PMark} (h : RT w R s p out xs ms) (n : Nat) : RT (w.drewN n) R s p out xs ms := h.below ⟨rfl, rfl, rfl, Nat.le_refl _, fun _ _ => rfl⟩
theorem RT.grown {w w' : World} {R : Nat} {s : ByteArray} {p q : Nat} {out : Value} {xs : List Value} {ms : List PMark} (h : RT w R s p out xs ms) (hg : w.grownBy w' (some R)) (h3 : Rd w' R s q out 0 0) : RT w' R s q out xs ms :=
  ⟨h3, ownsRow_keep h.2.1 (fun k hk => hg.block k (by obtain ⟨cur, hc⟩ := (own_block h.2.1 k hk).2; exact (Array.getElem?_eq_some_iff.1 hc).1) (fun e => by cases e; have := (own_block h.2.1 R hk).1; omega)), h.2.2.keep (Keep.rd h.1 hg)⟩
theorem RT.rs {w : World} {R : Nat} {s : ByteArray} {p : Nat} {out : Value} {xs : List Value} {ms : List PMark} (h : RT w R s p out xs ms) (hm : ms.length ≤ p) : RS w R s p ms := ⟨out, xs, h.1, h.2.1, h.2.2, hm⟩

theorem RT.after {w wA w' : World} {R : Nat} {s : ByteArray} {p : Nat} {out : Value} {xs : List Value} {ms : List PMark} (h : RT w R s p out xs ms) (hA : Below w.heap.size w wA) (hg : wA.grownBy w' out.ownBlock) :
    Rd w' R s p out 0 0 ∧ Keep w w' ∧ Below R w w' := by
  have hrA := h.1.below hA
  have hne : some R ≠ out.ownBlock := fun e => by have := (own_block h.2.1 R e.symm).1; omega
  refine ⟨hrA.grown hg hne, (Keep.below hA).trans (Keep.grown hg ?_), ?_⟩
  · intro k hk
    obtain ⟨_, cur, hc⟩ := own_block h.2.1 k hk
    exact ⟨cur, _, _, (hA.block k (Array.getElem?_eq_some_iff.1 hc).1).trans hc, by decide⟩
  · refine (hA.mono (Nat.le_of_lt h.1.lt)).trans ⟨hg.os, hg.tape, hg.output, hg.size, fun k hk => hg.block k (by have := hrA.lt; omega) (fun e => ?_)⟩
    have := (own_block h.2.1 k e.symm).1; omega

/-- a mark more. -/
theorem RT.push {w wA w' : World} {R : Nat} {s : ByteArray} {p : Nat} {out : Value} {xs : List Value} {ms : List PMark} (h : RT w R s p out xs ms) (hA : Below w.heap.size w wA) (hg : wA.grownBy w' out.ownBlock)
    {m : PMark} {av v' : Value} (ha : AttrsO w av m.attrs) (hown : w'.ownsRow (R + 1) 41 5 v' (ms.length + 1) (xs ++ mkCell m av)) :
    RT (w'.setCell ⟨R, 2, none⟩ v') R s p v' (xs ++ mkCell m av) (ms ++ [m]) ∧ Below R w (w'.setCell ⟨R, 2, none⟩ v') := by
  obtain ⟨hr, hk, hb⟩ := h.after hA hg
  refine ⟨⟨hr.set2 v', ?_, ?_⟩, hb.setCell (Nat.le_refl _) _⟩
  · rw [List.length_append]
    exact ownsRow_setCell_below hown (by show R < R + 1; omega) _
  · exact ((h.2.2.keep hk).snoc (ha.keep hk)).keep (Keep.rd hr (grown_set _ _ _ _))
theorem mkCell_one (m : PMark) (av : Value) (h : av.oneCell' = true) : ∀ u ∈ mkCell m av, u.oneCell' = true := by
  intro u hu
  simp only [mkCell, List.mem_cons, List.not_mem_nil, or_false] at hu
  rcases hu with rfl | rfl | rfl | rfl | rfl
  · rfl
  · rfl
  · rfl
  · exact h
  · rfl
theorem info_mark : ∃ i z bytes, Tryz.prog.info? 41 = some i ∧ i.zero = some z ∧ i.size = 5 ∧ i.bytes = bytes ∧ z.cells.size = 5 ∧ bytes ≤ 128 := by
  have h := A_infoM
  obtain ⟨i, hi, hz⟩ := Option.map_eq_some_iff.1 h
  simp only [Prod.mk.injEq, Option.map_eq_some_iff, decide_eq_true_eq] at hz
  obtain ⟨⟨z, hz0, hz1⟩, hz2, hz3⟩ := hz
  exact ⟨i, z, i.bytes, hi, hz0, hz2, rfl, hz1, hz3⟩
end Go.Proofs.YtcicibeggkmlcaaGreatDoor
