/- Marks in memory; the reader's list of marks, al it grows. Conditions: each theorem's own premises. The walks of the reader of marks: data, comment, chars. Conditions: the reader lies in memory as it is made; the text has at most 65536 bytes; the tables lie as they are laid. The walks of the reader of marks: comment, chars. Conditions: as in the text before. -/
import Derived.Test.YtcicibeggkmlcaaGreatDoorMkA
import Derived.Deep.RegionLaw
namespace Go.Proofs.YtcicibeggkmlcaaGreatDoor
open Go.RowKit Go.Sof

/-! ### attributes and marks in memory -/
def attrCell (a : PAttr) : List Value := [.string ⟨a.name.toArray⟩, .string ⟨a.value.toArray⟩]
def attrCells (al : List PAttr) : List Value := al.flatMap attrCell
/-- attributes in a block of their own type. -/
def AttrsO (w : World) (v : Value) (al : List PAttr) : Prop :=
  (al = [] ∧ v = .slice none 0 0) ∨
  ∃ b o c cur fz, v = .slice (some ⟨b, o, none⟩) al.length c ∧ w.heap[b]? = some (.cells cur 58 fz) ∧ (∀ j u, (attrCells al)[j]? = some u → cur[o + j]? = some u) ∧ al.length ≤ c
def mkCell (m : PMark) (av : Value) : List Value := [.int .i64 m.kind, .int .i64 m.pos, .string ⟨m.name.toArray⟩, av, .string ⟨m.text.toArray⟩]
def MarksO (w : World) : List PMark → List Value → Prop
  | [], xs => xs = []
  | m :: r, xs => ∃ av ys, xs = mkCell m av ++ ys ∧ AttrsO w av m.attrs ∧ MarksO w r ys

theorem attrCells_len : ∀ al : List PAttr, (attrCells al).length = al.length * 2
  | [] => rfl
  | a :: r => by simp only [attrCells, List.flatMap_cons, List.length_append, List.length_cons] at *; have := attrCells_len r; simp only [attrCells] at this; rw [this]; simp [attrCell]; omega
theorem MarksO.len {w : World} : ∀ {ms : List PMark} {xs : List Value}, MarksO w ms xs → xs.length = ms.length * 5
  | [], xs, h => by have h' : xs = [] := h; subst h'; rfl
  | m :: r, xs, h => by
    obtain ⟨av, ys, rfl, _, h3⟩ := h
    have := MarksO.len h3
    simp [mkCell, this]; omega
theorem MarksO.snoc {w : World} : ∀ {ms : List PMark} {xs : List Value} {m : PMark} {av : Value}, MarksO w ms xs → AttrsO w av m.attrs → MarksO w (ms ++ [m]) (xs ++ mkCell m av)
  | [], xs, m, av, h, ha => by have h' : xs = [] := h; subst h'; exact ⟨av, [], by simp, ha, rfl⟩
  | m0 :: r, xs, m, av, h, ha => by
    obtain ⟨av0, ys, rfl, h2, h3⟩ := h
    exact ⟨av0, ys ++ mkCell m av, by simp, h2, h3.snoc ha⟩

/-- what holds attributes stays al it is. -/
def Keep (w w' : World) : Prop := ∀ (b : Nat) (cur : Array Value) (fz : Nat × Nat), w.heap[b]? = some (.cells cur 58 fz) → w'.heap[b]? = w.heap[b]?
theorem Keep.refl (w : World) : Keep w w := fun _ _ _ _ => rfl
theorem Keep.trans {a b c : World} (h : Keep a b) (k : Keep b c) : Keep a c := fun x cur fz hx => by rw [k x cur fz (by rw [h x cur fz hx]; exact hx)]; exact h x cur fz hx
theorem Keep.below {w w' : World} (h : Below w.heap.size w w') : Keep w w' := fun _ _ _ hx => h.block _ (Array.getElem?_eq_some_iff.1 hx).1
theorem Keep.grown {w w' : World} {row : Option Nat} (h : w.grownBy w' row) (hr : ∀ k, row = some k → ∃ cur t fz, w.heap[k]? = some (.cells cur t fz) ∧ t ≠ 58) : Keep w w' := fun b cur fz hx =>
  h.block b (Array.getElem?_eq_some_iff.1 hx).1 (fun e => by
    obtain ⟨cur', t, fz', h1, h2⟩ := hr b e.symm
    rw [hx] at h1
    simp only [Option.some.injEq, Obj.cells.injEq] at h1
    exact h2 h1.2.1.symm)
theorem Keep.rd {w w' : World} {R : Nat} {s : ByteArray} {p : Nat} {out : Value} {fr e : Int} (h : Rd w R s p out fr e) (hg : w.grownBy w' (some R)) : Keep w w' :=
  Keep.grown hg (fun k hk => by cases hk; exact ⟨_, _, _, h, by decide⟩)
theorem AttrsO.keep {w w' : World} {v : Value} {al : List PAttr} (h : AttrsO w v al) (hk : Keep w w') : AttrsO w' v al := by
  rcases h with h | ⟨b, o, c, cur, fz, h1, h2, h3⟩
  · exact .inl h
  · exact .inr ⟨b, o, c, cur, fz, h1, (hk b cur fz h2).trans h2, h3⟩
theorem MarksO.keep {w w' : World} (hk : Keep w w') : ∀ {ms : List PMark} {xs : List Value}, MarksO w ms xs → MarksO w' ms xs
  | [], _, h => h
  | _ :: _, _, h => by
    obtain ⟨av, ys, h1, h2, h3⟩ := h
    exact ⟨av, ys, h1, h2.keep hk, h3.keep hk⟩

/-- what the reader has. -/
def RS (w : World) (R : Nat) (s : ByteArray) (p : Nat) (ms : List PMark) : Prop :=
  ∃ out xs, Rd w R s p out 0 0 ∧ w.ownsRow (R + 1) 41 5 out ms.length xs ∧ MarksO w ms xs ∧ ms.length ≤ p
/-- where it failed. -/
def RF (w : World) (R : Nat) (s : ByteArray) (k : Nat) (e : Int) : Prop := ∃ p out, Rd w R s p out k e

theorem own_block {w : World} {B e size n : Nat} {v : Value} {xs : List Value} (h : w.ownsRow B e size v n xs) : ∀ k, v.ownBlock = some k → B ≤ k ∧ ∃ cur, w.heap[k]? = some (.cells cur e (0, 0)) := by
  intro k hk
  rcases h.2 with ⟨hv, _⟩ | ⟨g, cap, cur, hv, hb, hg, _⟩
  · rw [hv] at hk; simp [Value.ownBlock] at hk
  · rw [hv] at hk; simp only [Value.ownBlock, Option.some.injEq] at hk; subst hk; exact ⟨hb, cur, hg⟩
theorem ownsRow_keep {w w' : World} {B e size n : Nat} {v : Value} {xs : List Value} (h : w.ownsRow B e size v n xs) (hk : ∀ k, v.ownBlock = some k → w'.heap[k]? = w.heap[k]?) : w'.ownsRow B e size v n xs := by
  refine ⟨h.1, h.2.imp id ?_⟩
  rintro ⟨g, cap, cur, hv, hb, hg, hr⟩
  exact ⟨g, cap, cur, hv, hb, (hk g (by rw [hv]; rfl)).trans hg, hr⟩
theorem RS.grownR {w w' : World} {R p q : Nat} {s : ByteArray} {ms : List PMark} {out : Value} {xs : List Value} (h0 : Rd w R s p out 0 0) (h1 : w.ownsRow (R + 1) 41 5 out ms.length xs) (h2 : MarksO w ms xs)
    (hg : w.grownBy w' (some R)) (h3 : Rd w' R s q out 0 0) (hq : ms.length ≤ q) : RS w' R s q ms :=
  ⟨out, xs, h3, ownsRow_keep h1 (fun k hk => hg.block k (by have := (own_block h1 k hk).2; obtain ⟨cur, hc⟩ := this; exact (Array.getElem?_eq_some_iff.1 hc).1) (fun e => by cases e; have := (own_block h1 R hk).1; omega)), h2.keep (Keep.rd h0 hg), hq⟩

theorem A_infoM : (Tryz.prog.info? 41).map (fun i => (i.zero.map (fun z => z.cells.size), i.size, decide (i.bytes ≤ 128))) = some (some 5, 5, true) := by kernel_rfl

/-- append to a row of the call's own, al a step of a region. -/
theorem step_append_own {P : Program} {ops : Array Oper} {o : Oper} {a : Act} {w : World} {K : Act → World → Prop} {Q : Exit → Act → World → Prop} {E : Prop}
    (hg : o.guard = none) (s x : Operand) (t : TypeId) (hop : o.op = Op.call { callee := Callee.builtin Builtin.append, args := #[s, x], argTypes := #[t, t] })
    (base : Nat) (e : TypeId) (i : TypeInfo) (z : Value) (size bytes : Nat) (h1 : P.underlying t = some (.slice e)) (h2 : P.info? e = some i) (h3 : i.zero = some z) (h4 : i.size = size) (h5 : i.bytes = bytes) (h6 : z.cells.size = size) (h7 : 0 < size)
    (v : Value) (n : Nat) (xs : List Value) (hs : a.eval s = v) (hown : w.ownsRow base e size v n xs)
    (ad : Addr) (m c : Nat) (news : List Value) (hx : a.eval x = .slice (some ad) m c) (hn : news.length = m * size) (hc : ∀ j u, news[j]? = some u → w.cell? (ad.add j) = some u) (h1c : ∀ u ∈ news, u.oneCell' = true)
    (b1 : n + m ≤ maxLen) (b2 : (n + m) * bytes ≤ 140737488355328) (hbase : base ≤ w.heap.size)
    (hK : ∀ v' w', w'.ownsRow base e size v' (n + m) (xs ++ news) → w.grownBy w' v.ownBlock → K (a.put o.dst v') w') :
    if Region.wanted o (yielded ops a.tmps) = true then Oper.wp P o a w K Q else E := by
  have hw : Region.wanted o (yielded ops a.tmps) = true := by simp [Region.wanted, hg]
  rw [if_pos hw]
  obtain ⟨v', w', hrun, r1, r2, _⟩ := run_append_own (P := P) w base t o.type e i z size bytes h1 h2 h3 h4 h5 h6 h7 v n xs hown ad m c news hn hc h1c b1 b2 hbase
  unfold Oper.wp
  simp [execOp, hop, resolve, invoke, builtin, hs, hx, hrun, Result.andThen]
  exact hK v' w' r1 r2

theorem adr_add (b o j : Nat) : (⟨b, o, none⟩ : Addr).add j = ⟨b, o + j, none⟩ := by unfold Addr.add; split <;> simp_all
theorem cells_new (w : World) (cs : Array Value) (t : TypeId) : ∀ (j : Nat) (u : Value), cs.toList[j]? = some u → (w.alloc (.cells cs t)).cell? ((⟨w.heap.size, 0, none⟩ : Addr).add j) = some u := by
  intro j u hj
  rw [adr_add]; unfold World.cell?; simp only [heap_alloc_new]
  rw [Array.getElem?_toList] at hj
  simpa using hj
theorem row_form {w : World} {B e size n : Nat} {v : Value} {xs : List Value} (h : w.ownsRow B e size v (n + 1) xs) : ∃ g cap, v = .slice (some ⟨g, 0, none⟩) (n + 1) cap := by
  rcases h.2 with ⟨_, h0⟩ | ⟨g, cap, _, hv, _⟩
  · omega
  · exact ⟨g, cap, hv⟩
theorem ownsRow_below {w w' : World} {B e size n : Nat} {v : Value} {xs : List Value} (h : w.ownsRow B e size v n xs) (hb : Below w.heap.size w w') : w'.ownsRow B e size v n xs :=
  ownsRow_keep h (fun k hk => hb.block k (by obtain ⟨cur, hc⟩ := (own_block h k hk).2; exact (Array.getElem?_eq_some_iff.1 hc).1))

/-- the reader with its list laid open. -/
def RT (w : World) (R : Nat) (s : ByteArray) (p : Nat) (out : Value) (xs : List Value) (ms : List PMark) : Prop :=
  Rd w R s p out 0 0 ∧ w.ownsRow (R + 1) 41 5 out ms.length xs ∧ MarksO w ms xs
theorem RT.below {w w' : World} {R : Nat} {s : ByteArray} {p : Nat} {out : Value} {xs : List Value} {ms : List PMark} (h : RT w R s p out xs ms) (hb : Below w.heap.size w w') : RT w' R s p out xs ms :=
  ⟨h.1.below hb, ownsRow_below h.2.1 hb, h.2.2.keep (Keep.below hb)⟩
theorem RT.drewN {w : World} {R : Nat} {s : ByteArray} {p : Nat} {out : Value} {xs : List Value} {ms : List PMark} (h : RT w R s p out xs ms) (n : Nat) : RT (w.drewN n) R s p out xs ms := h.below ⟨rfl, rfl, rfl, Nat.le_refl _, fun _ _ => rfl⟩
theorem RT.grown {w w' : World} {R : Nat} {s : ByteArray} {p q : Nat} {out : Value} {xs : List Value} {ms : List PMark} (h : RT w R s p out xs ms) (hg : w.grownBy w' (some R)) (h3 : Rd w' R s q out 0 0) : RT w' R s q out xs ms :=
  ⟨h3, ownsRow_keep h.2.1 (fun k hk => hg.block k (by obtain ⟨cur, hc⟩ := (own_block h.2.1 k hk).2; exact (Array.getElem?_eq_some_iff.1 hc).1) (fun e => by cases e; have := (own_block h.2.1 R hk).1; omega)), h.2.2.keep (Keep.rd h.1 hg)⟩
theorem RT.rs {w : World} {R : Nat} {s : ByteArray} {p : Nat} {out : Value} {xs : List Value} {ms : List PMark} (h : RT w R s p out xs ms) (hm : ms.length ≤ p) : RS w R s p ms := ⟨out, xs, h.1, h.2.1, h.2.2, hm⟩

theorem RT.after {w wA w' : World} {R : Nat} {s : ByteArray} {p : Nat} {out : Value} {xs : List Value} {ms : List PMark} (h : RT w R s p out xs ms) (hA : Below w.heap.size w wA) (hg : wA.grownBy w' out.ownBlock) :
    Rd w' R s p out 0 0 ∧ Keep w w' ∧ Below R w w' := by
  have hrA := h.1.below hA
  have hne : some R ≠ out.ownBlock := fun e => by have := (own_block h.2.1 R e.symm).1; omega
  refine ⟨hrA.grown hg hne, (Keep.below hA).trans (Keep.grown hg ?_), ?_⟩
  · intro k hk
    obtain ⟨_, cur, hc⟩ := own_block h.2.1 k hk
    exact ⟨cur, _, _, (hA.block k (Array.getElem?_eq_some_iff.1 hc).1).trans hc, by decide⟩
  · refine (hA.mono (Nat.le_of_lt h.1.lt)).trans ⟨hg.os, hg.tape, hg.output, hg.size, fun k hk => hg.block k (by have := hrA.lt; omega) (fun e => ?_)⟩
    have := (own_block h.2.1 k e.symm).1; omega

/-- a mark more. -/
theorem RT.push {w wA w' : World} {R : Nat} {s : ByteArray} {p : Nat} {out : Value} {xs : List Value} {ms : List PMark} (h : RT w R s p out xs ms) (hA : Below w.heap.size w wA) (hg : wA.grownBy w' out.ownBlock)
    {m : PMark} {av v' : Value} (ha : AttrsO w av m.attrs) (hown : w'.ownsRow (R + 1) 41 5 v' (ms.length + 1) (xs ++ mkCell m av)) :
    RT (w'.setCell ⟨R, 2, none⟩ v') R s p v' (xs ++ mkCell m av) (ms ++ [m]) ∧ Below R w (w'.setCell ⟨R, 2, none⟩ v') := by
  obtain ⟨hr, hk, hb⟩ := h.after hA hg
  refine ⟨⟨hr.set2 v', ?_, ?_⟩, hb.setCell (Nat.le_refl _) _⟩
  · rw [List.length_append]
    exact ownsRow_setCell_below hown (by show R < R + 1; omega) _
  · exact ((h.2.2.keep hk).snoc (ha.keep hk)).keep (Keep.rd hr (grown_set _ _ _ _))
theorem mkCell_one (m : PMark) (av : Value) (h : av.oneCell' = true) : ∀ u ∈ mkCell m av, u.oneCell' = true := by
  intro u hu
  simp only [mkCell, List.mem_cons, List.not_mem_nil, or_false] at hu
  rcases hu with rfl | rfl | rfl | rfl | rfl
  · rfl
  · rfl
  · rfl
  · exact h
  · rfl
theorem info_mark : ∃ i z bytes, Tryz.prog.info? 41 = some i ∧ i.zero = some z ∧ i.size = 5 ∧ i.bytes = bytes ∧ z.cells.size = 5 ∧ bytes ≤ 128 := by
  have h := A_infoM
  obtain ⟨i, hi, hz⟩ := Option.map_eq_some_iff.1 h
  simp only [Prod.mk.injEq, Option.map_eq_some_iff, decide_eq_true_eq] at hz
  obtain ⟨⟨z, hz0, hz1⟩, hz2, hz3⟩ := hz
  exact ⟨i, z, i.bytes, hi, hz0, hz2, rfl, hz1, hz3⟩
end Go.Proofs.YtcicibeggkmlcaaGreatDoor

namespace Go.Proofs.YtcicibeggkmlcaaGreatDoor
open Go.RowKit Go.Sof

theorem cut_some {l sep : Bytes} {i : Nat} (h : idx l sep = some i) : Lib.cut l sep = (l.take i, l.drop (i + sep.length), true) := by
  unfold idx at h; unfold Lib.cut
  split at h
  · rename_i h0
    simp only [Option.some.injEq] at h
    rw [if_pos h0, h]
  · simp at h
theorem cut_none {l sep : Bytes} (h : idx l sep = none) : Lib.cut l sep = (l, [], false) := by
  unfold idx at h; unfold Lib.cut
  split at h
  · simp at h
  · rename_i h0; rw [if_neg h0]

/-- strings.Cut, among other reads. -/
theorem cut_q (s sep : ByteArray) (w : World) (h : WOK w) (hs : s.size ≤ 2147483648) (n : Nat) :
    Calls Tryz.prog 49 #[.string s, .string sep] (w.drewN n) fun e w' => e = .returned (.tuple #[.string ⟨(Lib.cut s.data.toList sep.data.toList).1.toArray⟩, .string ⟨(Lib.cut s.data.toList sep.data.toList).2.1.toArray⟩, .bool (Lib.cut s.data.toList sep.data.toList).2.2]) ∧ ∃ m, w' = w.drewN m := by
  obtain ⟨m, hm⟩ := h.2
  exact Calls.quiet_of (Tryz.strings_Cut s sep m (w.drewN n) (by omega) hm)

theorem cut_ok (X sep : ByteArray) (w : World) (h : WOK w) (hs : X.size ≤ 2147483648) (i : Nat) (hi : idx X.data.toList sep.data.toList = some i) :
    ∃ B Z : ByteArray, B.data.toList = X.data.toList.take i ∧ B.size = i ∧ ∀ n, Calls Tryz.prog 49 #[.string X, .string sep] (w.drewN n) fun e w' => e = .returned (.tuple #[.string B, .string Z, .bool true]) ∧ ∃ m, w' = w.drewN m := by
  refine ⟨⟨(X.data.toList.take i).toArray⟩, ⟨(X.data.toList.drop (i + sep.data.toList.length)).toArray⟩, rfl, ?_, fun n => ?_⟩
  · have := (idx_some hi).2.1
    show (List.toArray _).size = i
    simp only [List.size_toArray, List.length_take]; omega
  · have := cut_q X sep w h hs n
    rw [cut_some hi] at this
    exact this
theorem cut_no (X sep : ByteArray) (w : World) (h : WOK w) (hs : X.size ≤ 2147483648) (hi : idx X.data.toList sep.data.toList = none) :
    ∃ B Z : ByteArray, B.size = X.size ∧ ∀ n, Calls Tryz.prog 49 #[.string X, .string sep] (w.drewN n) fun e w' => e = .returned (.tuple #[.string B, .string Z, .bool false]) ∧ ∃ m, w' = w.drewN m := by
  refine ⟨⟨X.data.toList.toArray⟩, ⟨#[]⟩, by rw [ba_eta], fun n => ?_⟩
  have := cut_q X sep w h hs n
  rw [cut_none hi] at this
  exact this

theorem WOK.drewN {w : World} (h : WOK w) (n : Nat) : WOK (w.drewN n) := h

def DataPost (R : Nat) (s : ByteArray) (p : Nat) (ms : List PMark) (x : Except Err (PMark × Nat)) (w' : World) : Prop :=
  match x with
  | .ok (m, n) => RS w' R s (p + n) (ms ++ [{ m with pos := (p : Int) }])
  | .error (k, e) => RF w' R s (p + k) e

set_option maxRecDepth 1000000 in
set_option maxHeartbeats 600000 in
theorem data_c (w : World) (R : Nat) (s : ByteArray) (p : Nat) (ms : List PMark) (h : RS w R s p ms) (hs : s.size ≤ 65536) (hp : p + 9 ≤ s.size) (hw : WOK w) :
    Calls Tryz.prog 59 #[.pointer (some ⟨R, 0, none⟩)] w fun en w' => en = .returned (.tuple #[]) ∧ DataPost R s p ms (dataP (s.data.toList.drop p)) w' ∧ Below R w w' := by
  obtain ⟨out, xs, h1, h2, h3, h4⟩ := h
  have hXl := Lib.extract_to_end s (p + 9)
  have c0 := h1.c0
  have c1 := h1.c1
  have hp1 : (p : Int) + 9 ≤ (s.size : Int) := by omega
  unfold dataP
  rw [List.drop_drop]
  cases hi : idx (s.data.toList.drop (p + 9)) [93, 93, 62] with
  | none =>
    obtain ⟨B, Z, _, hq⟩ := cut_no (s.extract (p + 9) s.size) ⟨#[93, 93, 62]⟩ w hw (by simp; omega) (by rw [hXl]; exact hi)
    have HC := Lib.hid hq; clear hq hi hXl
    have H := Lib.hid h1; clear h1 h2 h3 h4
    go_enter Tryz.func59, Tryz.ntmps59
    go_wp2_with fail
    go_quiet (first | (go_at_call 49; refine (HC.out _)))
    go_wp2_with (first | (go_at_call 83; refine (fail_c _ R s p out 0 (H.out.drewN nq) p 8).mono ?_; rintro en w2 ⟨rfl, hr, hg⟩))
    refine bodyPost_ret (results_none rfl _ _ _) rfl ?_
    exact ⟨rfl, ⟨p, out, hr⟩, below_grown ((grown_drewN w nq _).trans hg) (Nat.le_refl _) (Nat.le_of_lt H.out.lt)⟩
  | some i =>
    obtain ⟨B, Z, hBl, hBs, hq⟩ := cut_ok (s.extract (p + 9) s.size) ⟨#[93, 93, 62]⟩ w hw (by simp; omega) i (by rw [hXl]; exact hi)
    rw [hXl] at hBl
    have hi2 := (idx_some hi).2.1
    simp only [List.length_drop, List.length_cons, List.length_nil, show s.data.toList.length = s.size from Array.length_toList] at hi2
    have hb := fun W hW => bad_c B W hW (by omega)
    simp only
    rw [← hBl]
    cases hbd : bad B.data.toList with
    | some j =>
      rw [show badI B.data.toList = (j : Int) from by unfold badI; rw [hbd]] at hb
      have hj := bad_lt _ _ (Nat.le_refl _) _ hbd
      rw [show B.data.toList.length = B.size from Array.length_toList, hBs] at hj
      have HC := Lib.hid (And.intro hq hb); clear hq hb hi hXl hBl hbd
      have H := Lib.hid h1; clear h1 h2 h3 h4
      have HW := Lib.hid hw; clear hw
      go_enter Tryz.func59, Tryz.ntmps59
      go_wp2_with fail
      go_quiet (first | (go_at_call 49; refine (HC.out.1 _)))
      go_wp2_with (first
        | (go_at_call 17; refine (HC.out.2 _ (HW.out.drewN nq)).mono ?_; rintro en w2 ⟨rfl, b2⟩; have hr2 := (H.out.drewN nq).below b2; have d1 := hr2.c1)
        | (go_at_call 83; refine (fail_c _ R s p out 0 hr2 _ _).mono ?_; rintro en w3 ⟨rfl, hr, hg⟩))
      refine bodyPost_ret (results_none rfl _ _ _) rfl ?_
      refine ⟨rfl, ⟨p, out, ?_⟩, below_grown (((grown_drewN w nq _).trans (grown_below b2 _)).trans hg) (Nat.le_refl _) (Nat.le_of_lt H.out.lt)⟩
      rw [show ((p + (9 + j) : Nat) : Int) = (p : Int) + 9 + (j : Int) from by omega]
      exact hr
    | none =>
      rw [show badI B.data.toList = -1 from by unfold badI; rw [hbd]] at hb
      have HC := Lib.hid (And.intro hq hb); clear hq hb hi hXl hBl hbd
      have H := Lib.hid (And.intro h1 (And.intro h2 (And.intro h3 h4))); clear h1 h2 h3 h4
      have HW := Lib.hid hw; clear hw
      go_enter Tryz.func59, Tryz.ntmps59
      go_wp2_with fail
      go_quiet (first | (go_at_call 49; refine (HC.out.1 _)))
      go_wp2_with (first
        | (go_at_call 17; refine (HC.out.2 _ (HW.out.drewN nq)).mono ?_; rintro en w2 ⟨rfl, b2⟩; have hr2 := (H.out.1.drewN nq).below b2; have d1 := hr2.c1; have d2 := hr2.c2))
      obtain ⟨i0, z0, by0, hi0, hz0, hs0, hb0, hc0, hbl⟩ := info_mark
      have IM := Lib.hid (And.intro hi0 (And.intro hz0 (And.intro hs0 (And.intro hb0 hc0)))); clear hi0 hz0 hs0 hb0 hc0
      have ht2 := (show RT w R s p out xs ms from ⟨H.out.1, H.out.2.1, H.out.2.2.1⟩).drewN nq |>.below b2
      have hRlt := ht2.1.lt
      have HT := Lib.hid ht2; clear ht2
      have hN1 : ms.length + 1 ≤ maxLen := by have := H.out.2.2.2; unfold maxLen; omega
      have hN2 : (ms.length + 1) * by0 ≤ 140737488355328 := by
        have := H.out.2.2.2
        exact Nat.le_trans (Nat.mul_le_mul (show ms.length + 1 ≤ 65537 by omega) hbl) (by omega)
      have HN := Lib.hid (And.intro hN1 hN2); clear hN1 hN2
      go_region_law (refine step_append_own rfl (.tmp 46) (.tmp 53) 35 rfl (R + 1) 41 i0 z0 5 by0 Tryz.underlying35 IM.out.1 IM.out.2.1 IM.out.2.2.1 IM.out.2.2.2.1 IM.out.2.2.2.2 (by decide) out ms.length xs (by simp [Act.eval]) (ownsRow_below HT.out.2.1 (((Below.refl _ w2).drew).alloc (Nat.le_refl _) _)) ⟨w2.heap.size, 0, none⟩ 1 1 (mkCell ⟨3, p, [], [], B.data.toList⟩ (.slice none 0 0)) (by simp [Act.eval]) rfl (cells_new _ _ _) (mkCell_one _ _ rfl) HN.out.1 HN.out.2 (by have := HT.out.1.lt; simp; omega) ?_; intro v4 w4 hown4 hgrow4; obtain ⟨g4, cap4, rfl⟩ := row_form hown4; have ha4 := HT.out.after (((Below.refl _ w2).drew).alloc (Nat.le_refl _) _) hgrow4; have hc4 := ha4.1.c2; have hc41 := ha4.1.c1; have hf4 := ha4.1.fz 2; have hf41 := ha4.1.fz 1; have hp4 := HT.out.push (((Below.refl _ w2).drew).alloc (Nat.le_refl _) _) hgrow4 (Or.inl ⟨rfl, rfl⟩) hown4; have HP := Lib.hid (And.intro hp4.1 hp4.2); clear ha4 hp4 hown4 hgrow4)
      all_goals go_wp2_with fail
      all_goals go_end0
      all_goals refine ⟨rfl, (HP.out.1.grown (grown_set _ _ _ _) (HP.out.1.1.set1 _ _ (by first | (simp; done) | (simp; omega)))).rs (by have := H.out.2.2.2; simp; omega), ?_⟩
      all_goals exact (below_grown ((grown_drewN w nq (some R)).trans (grown_below b2 _)) (Nat.le_refl _) (Nat.le_of_lt H.out.1.lt)).trans (HP.out.2.setCell (Nat.le_refl _) _)
end Go.Proofs.YtcicibeggkmlcaaGreatDoor

namespace Go.Proofs.YtcicibeggkmlcaaGreatDoor
open Go.RowKit Go.Sof

theorem hp_get (s : ByteArray) (q : Nat) (h : q < s.size) (b : UInt8) : Lib.hasPrefix (s.data.toList.drop q) [b] = (b == s[q]'h) := by
  rw [get_cons s q h]; exact hp_one _ _ _
theorem hp_past (s : ByteArray) (q : Nat) (h : s.size ≤ q) (b : UInt8) : Lib.hasPrefix (s.data.toList.drop q) [b] = false := by
  rw [List.drop_of_length_le (by rw [show s.data.toList.length = s.size from Array.length_toList]; exact h)]; rfl

def CommentPost (R : Nat) (s : ByteArray) (p : Nat) (ms : List PMark) (x : Except Err Nat) (w' : World) : Prop :=
  match x with
  | .ok n => RS w' R s (p + n) ms
  | .error (k, e) => RF w' R s (p + k) e

set_option maxRecDepth 1000000 in
set_option maxHeartbeats 1000000 in
theorem comment_c (w : World) (R : Nat) (s : ByteArray) (p : Nat) (ms : List PMark) (h : RS w R s p ms) (hs : s.size ≤ 65536) (hp : p + 4 ≤ s.size) (hw : WOK w) :
    Calls Tryz.prog 58 #[.pointer (some ⟨R, 0, none⟩)] w fun en w' => en = .returned (.tuple #[]) ∧ CommentPost R s p ms (commentP (s.data.toList.drop p)) w' ∧ Below R w w' := by
  obtain ⟨out, xs, h1, h2, h3, h4⟩ := h
  have hXl := Lib.extract_to_end s (p + 4)
  have c0 := h1.c0
  have c1 := h1.c1
  have hp1 : (p : Int) + 4 ≤ (s.size : Int) := by omega
  unfold commentP
  simp only [List.drop_drop]
  cases hi : idx (s.data.toList.drop (p + 4)) [45, 45] with
  | none =>
    obtain ⟨B, Z, hBs, hq⟩ := cut_no (s.extract (p + 4) s.size) ⟨#[45, 45]⟩ w hw (by simp; omega) (by rw [hXl]; exact hi)
    have hB2 : B.size ≤ 65536 := by rw [hBs]; simp; omega
    have HC := Lib.hid hq; clear hq hi hXl hBs
    have H := Lib.hid h1; clear h1 h2 h3 h4
    go_enter Tryz.func58, Tryz.ntmps58
    go_wp2_with fail
    go_quiet (first | (go_at_call 49; refine (HC.out _)))
    go_wp2_with (first | (go_at_call 83; refine (fail_c _ R s p out 0 (H.out.drewN nq) _ _).mono ?_; rintro en w2 ⟨rfl, hr, hg⟩))
    refine bodyPost_ret (results_none rfl _ _ _) rfl ?_
    exact ⟨rfl, ⟨p, out, hr⟩, below_grown ((grown_drewN w nq _).trans hg) (Nat.le_refl _) (Nat.le_of_lt H.out.lt)⟩
  | some i =>
    obtain ⟨B, Z, hBl, hBs, hq⟩ := cut_ok (s.extract (p + 4) s.size) ⟨#[45, 45]⟩ w hw (by simp; omega) i (by rw [hXl]; exact hi)
    rw [hXl] at hBl
    have hi2 := (idx_some hi).2.1
    simp only [List.length_drop, List.length_cons, List.length_nil, show s.data.toList.length = s.size from Array.length_toList] at hi2
    have hb := fun W hW => bad_c B W hW (by omega)
    simp only
    rw [← hBl]
    have H := Lib.hid (show RT w R s p out xs ms from ⟨h1, h2, h3⟩); clear h1 h2 h3
    have HW := Lib.hid hw; clear hw
    by_cases hlt : p + (4 + i + 2) < s.size
    · rw [hp_get s _ hlt]
      obtain ⟨c, hc⟩ : ∃ c, c = s[p + (4 + i + 2)]'hlt := ⟨_, rfl⟩
      have hix : s[p + 4 + i + 2]'(by omega) = c := by rw [hc]; congr 1; omega
      rw [← hc]
      have hl1 : (p : Int) + 4 + (i : Int) + 2 < (s.size : Int) := by omega
      by_cases h62 : c = 62
      · subst h62
        rw [show ((62 : UInt8) == 62) = true from rfl, if_neg (by simp)]
        cases hbd : bad B.data.toList with
        | some j =>
          rw [show badI B.data.toList = (j : Int) from by unfold badI; rw [hbd]] at hb
          have hj := bad_lt _ _ (Nat.le_refl _) _ hbd
          rw [show B.data.toList.length = B.size from Array.length_toList, hBs] at hj
          have HC := Lib.hid (And.intro hq hb); clear hq hb hi hXl hBl hbd hc
          go_enter Tryz.func58, Tryz.ntmps58
          go_wp2_with fail
          go_quiet (first | (go_at_call 49; refine (HC.out.1 _)))
          go_wp2_with (first
            | (go_at_call 17; refine (HC.out.2 _ (HW.out.drewN nq)).mono ?_; rintro en w2 ⟨rfl, b2⟩; have hr2 := ((H.out.drewN nq).below b2).1; have d1 := hr2.c1)
            | (go_at_call 83; refine (fail_c _ R s p out 0 hr2 _ _).mono ?_; rintro en w3 ⟨rfl, hr, hg⟩))
          refine bodyPost_ret (results_none rfl _ _ _) rfl ?_
          refine ⟨rfl, ⟨p, out, ?_⟩, below_grown (((grown_drewN w nq _).trans (grown_below b2 _)).trans hg) (Nat.le_refl _) (Nat.le_of_lt H.out.1.lt)⟩
          rw [show ((p + (4 + j) : Nat) : Int) = (p : Int) + 4 + (j : Int) from by omega]
          exact hr
        | none =>
          rw [show badI B.data.toList = -1 from by unfold badI; rw [hbd]] at hb
          have HC := Lib.hid (And.intro hq hb); clear hq hb hi hXl hBl hbd hc
          go_enter Tryz.func58, Tryz.ntmps58
          go_wp2_with fail
          go_quiet (first | (go_at_call 49; refine (HC.out.1 _)))
          go_wp2_with (first
            | (go_at_call 17; refine (HC.out.2 _ (HW.out.drewN nq)).mono ?_; rintro en w2 ⟨rfl, b2⟩; have hr2 := (H.out.drewN nq).below b2; have d1 := hr2.1.c1; have f1 := hr2.1.fz 1; have H2 := Lib.hid hr2; clear hr2))
          go_end0
          exact ⟨rfl, (H2.out.grown (grown_set _ _ _ _) (H2.out.1.set1 _ _ (by first | (simp; done) | (simp; omega)))).rs (by omega), below_grown (((grown_drewN w nq _).trans (grown_below b2 _)).trans (grown_set _ _ _ _)) (Nat.le_refl _) (Nat.le_of_lt H.out.1.lt)⟩
      · rw [show ((62 : UInt8) == c) = false from by rw [beq_eq_false_iff_ne]; exact fun e => h62 e.symm, if_pos rfl]
        have n1 := ne_u8 c 62 62 rfl h62
        have n2 : ((c.toNat : Int) != 62) = true := by unfold bne; rw [n1]; rfl
        have HC := Lib.hid hq; clear hq hb hi hXl hBl hc
        go_enter Tryz.func58, Tryz.ntmps58
        go_wp2_with fail
        go_quiet (first | (go_at_call 49; refine (HC.out _)))
        go_wp2_with (first | (go_at_call 83; refine (fail_c _ R s p out 0 (H.out.1.drewN nq) _ _).mono ?_; rintro en w2 ⟨rfl, hr, hg⟩))
        refine bodyPost_ret (results_none rfl _ _ _) rfl ?_
        exact ⟨rfl, ⟨p, out, hr⟩, below_grown ((grown_drewN w nq _).trans hg) (Nat.le_refl _) (Nat.le_of_lt H.out.1.lt)⟩
    · rw [hp_past s _ (by omega), if_pos rfl]
      have hl1 : (s.size : Int) ≤ (p : Int) + 4 + (i : Int) + 2 := by omega
      have HC := Lib.hid hq; clear hq hb hi hXl hBl
      go_enter Tryz.func58, Tryz.ntmps58
      go_wp2_with fail
      go_quiet (first | (go_at_call 49; refine (HC.out _)))
      go_wp2_with (first | (go_at_call 83; refine (fail_c _ R s p out 0 (H.out.1.drewN nq) _ _).mono ?_; rintro en w2 ⟨rfl, hr, hg⟩))
      refine bodyPost_ret (results_none rfl _ _ _) rfl ?_
      exact ⟨rfl, ⟨p, out, hr⟩, below_grown ((grown_drewN w nq _).trans hg) (Nat.le_refl _) (Nat.le_of_lt H.out.1.lt)⟩
end Go.Proofs.YtcicibeggkmlcaaGreatDoor
