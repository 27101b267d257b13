/- The walk of the reader of marks: attr. Conditions: as in the text before. -/
import Derived.Test.YtcicibeggkmlcaaGreatDoorMkE
import Derived.Handy
namespace Go.Proofs.YtcicibeggkmlcaaGreatDoor
open Go.RowKit Go.Sof

def AttrPost (R : Nat) (s : ByteArray) (p frm : Nat) (out : Value) (x : Except (Option Err) (PAttr × Nat)) (en : Ending) (w' : World) : Prop :=
  match x with
  | .ok (a, n) => en = .returned (.tuple #[.agg #[.string ⟨a.name.toArray⟩, .string ⟨a.value.toArray⟩], .bool true]) ∧ Rd w' R s (p + n) out 0 0
  | .error none => (∃ x y : ByteArray, en = .returned (.tuple #[.agg #[.string x, .string y], .bool false])) ∧ ∃ q, Rd w' R s q out frm 8
  | .error (some (k, e)) => (∃ x y : ByteArray, en = .returned (.tuple #[.agg #[.string x, .string y], .bool false])) ∧ ∃ q, Rd w' R s q out (p + k : Nat) e

/-- an attribute's block. -/
def St2 (w : World) (b : Nat) (x y : ByteArray) : Prop := w.heap[b]? = some (.cells #[.string x, .string y] 58 (0, 0))
theorem St2.lt {w : World} {b : Nat} {x y : ByteArray} (h : St2 w b x y) : b < w.heap.size := (Array.getElem?_eq_some_iff.1 h).1
theorem St2.c0 {w : World} {b : Nat} {x y : ByteArray} (h : St2 w b x y) : w.cell? ⟨b, 0, none⟩ = some (.string x) := by
  unfold St2 at h; unfold World.cell?; rw [h]; rfl
theorem St2.c1 {w : World} {b : Nat} {x y : ByteArray} (h : St2 w b x y) : w.cell? ⟨b, 1, none⟩ = some (.string y) := by
  unfold St2 at h; unfold World.cell?; rw [h]; rfl
theorem St2.fz {w : World} {b : Nat} {x y : ByteArray} (h : St2 w b x y) (i : Nat) : w.frozen? ⟨b, i, none⟩ = false := by
  unfold St2 at h; unfold World.frozen?; rw [h]; simp
theorem St2.grown {w w' : World} {b R : Nat} {x y : ByteArray} (h : St2 w b x y) (hg : w.grownBy w' (some R)) (hr : b ≠ R) : St2 w' b x y := (hg.block b h.lt (fun e => hr (by cases e; rfl))).trans h
theorem St2.below {w w' : World} {b : Nat} {x y : ByteArray} (h : St2 w b x y) (hb : Below w.heap.size w w') : St2 w' b x y := (hb.block b h.lt).trans h
theorem St2.new (w : World) (x y : ByteArray) : St2 (w.alloc (.cells #[.string x, .string y] 58)) w.heap.size x y := heap_alloc_new w _
theorem St2.set {w : World} {b : Nat} {x y : ByteArray} (h : St2 w b x y) (x' y' : ByteArray) : St2 ((w.setCell ⟨b, 0, none⟩ (.string x')).setCell ⟨b, 1, none⟩ (.string y')) b x' y' :=
  heap_setCell_same _ b 1 _ _ _ (heap_setCell_same w b 0 _ _ _ h)
theorem Rd.ne2 {w : World} {R b : Nat} {s x y : ByteArray} {p : Nat} {out : Value} {fr e : Int} (h : Rd w R s p out fr e) (h2 : St2 w b x y) : b ≠ R := by
  intro hb; subst hb
  unfold Rd at h; unfold St2 at h2
  rw [h] at h2; simp at h2
theorem Rd.alloc {w : World} {R : Nat} {s : ByteArray} {p : Nat} {out : Value} {fr e : Int} (h : Rd w R s p out fr e) (o : Obj) : Rd (w.alloc o) R s p out fr e := h.below ((Below.refl _ w).alloc (Nat.le_refl _) o)
theorem grown_alloc (w : World) (o : Obj) (row : Option Nat) : w.grownBy (w.alloc o) row := grown_below ((Below.refl _ w).alloc (Nat.le_refl _) o) row

/-- what attr has at hand: the reader, the result's block, the attribute's own block. -/
structure AS (w0 w : World) (R : Nat) (s : ByteArray) (q : Nat) (out : Value) (fr e : Int) (N : Nat) (nm : ByteArray) : Prop where
  rd : Rd w R s q out fr e
  z : St2 w w0.heap.size ⟨#[]⟩ ⟨#[]⟩
  x : St2 w N nm ⟨#[]⟩
  g : w0.grownBy w (some R)
  zn : w0.heap.size ≠ R
  xn : N ≠ R
  zx : w0.heap.size < N
theorem AS.start {w0 w1 : World} {R : Nat} {s : ByteArray} {p q : Nat} {out : Value} {nm : ByteArray} (h : Rd w0 R s p out 0 0) (hr : Rd w1 R s q out 0 0) (hg : (w0.alloc (.cells #[.string ⟨#[]⟩, .string ⟨#[]⟩] 58)).grownBy w1 (some R)) :
    AS w0 (w1.alloc (.cells #[.string nm, .string ⟨#[]⟩] 58)) R s q out 0 0 w1.heap.size nm := by
  have h0 := h.lt
  have h1 := hr.lt
  have hz := (St2.new w0 ⟨#[]⟩ ⟨#[]⟩).grown hg (by omega)
  have hl := hz.lt
  exact ⟨hr.alloc _, hz.below ((Below.refl _ w1).alloc (Nat.le_refl _) _), St2.new w1 nm ⟨#[]⟩, ((grown_alloc w0 _ _).trans hg).trans (grown_alloc w1 _ _), by omega, by omega, by omega⟩
theorem AS.grown {w0 w w' : World} {R : Nat} {s : ByteArray} {q q' : Nat} {out : Value} {fr e fr' e' : Int} {N : Nat} {nm : ByteArray} (h : AS w0 w R s q out fr e N nm) (hr : Rd w' R s q' out fr' e') (hg : w.grownBy w' (some R)) : AS w0 w' R s q' out fr' e' N nm :=
  ⟨hr, h.z.grown hg h.zn, h.x.grown hg h.xn, h.g.trans hg, h.zn, h.xn, h.zx⟩
theorem AS.below {w0 w w' : World} {R : Nat} {s : ByteArray} {q : Nat} {out : Value} {fr e : Int} {N : Nat} {nm : ByteArray} (h : AS w0 w R s q out fr e N nm) (hb : Below w.heap.size w w') : AS w0 w' R s q out fr e N nm :=
  h.grown (h.rd.below hb) (grown_below hb _)
theorem AS.drewN {w0 w : World} {R : Nat} {s : ByteArray} {q : Nat} {out : Value} {fr e : Int} {N : Nat} {nm : ByteArray} (h : AS w0 w R s q out fr e N nm) (n : Nat) : AS w0 (w.drewN n) R s q out fr e N nm := h.below ⟨rfl, rfl, rfl, Nat.le_refl _, fun _ _ => rfl⟩
theorem Rd.setN {w : World} {R b i : Nat} {s : ByteArray} {q : Nat} {out : Value} {fr e : Int} (h : Rd w R s q out fr e) (hn : b ≠ R) (v : Value) : Rd (w.setCell ⟨b, i, none⟩ v) R s q out fr e := (Below.heap_setCell w ⟨b, i, none⟩ v R (fun e => hn e.symm)).trans h
theorem St2.setN {w : World} {R b i : Nat} {x y : ByteArray} (h : St2 w R x y) (hn : b ≠ R) (v : Value) : St2 (w.setCell ⟨b, i, none⟩ v) R x y := (Below.heap_setCell w ⟨b, i, none⟩ v R (fun e => hn e.symm)).trans h
theorem grown_setN {w0 w : World} {R : Nat} (h : w0.grownBy w (some R)) (b i : Nat) (hb : w0.heap.size ≤ b) (v : Value) : w0.grownBy (w.setCell ⟨b, i, none⟩ v) (some R) :=
  ⟨h.os, h.tape, h.output, by rw [show (w.setCell ⟨b, i, none⟩ v).heap.size = w.heap.size from by simp [World.setCell]]; exact h.size, fun k hk hn => (Below.heap_setCell w ⟨b, i, none⟩ v k (fun e => by have : k = b := e; omega)).trans (h.block k hk hn)⟩
theorem AS.fin {w0 w : World} {R : Nat} {s : ByteArray} {q : Nat} {out : Value} {fr e : Int} {N : Nat} {nm : ByteArray} (h : AS w0 w R s q out fr e N nm) (x y : ByteArray) :
    Rd ((w.setCell ⟨w0.heap.size, 0, none⟩ (.string x)).setCell ⟨w0.heap.size, 1, none⟩ (.string y)) R s q out fr e ∧ w0.grownBy ((w.setCell ⟨w0.heap.size, 0, none⟩ (.string x)).setCell ⟨w0.heap.size, 1, none⟩ (.string y)) (some R) ∧
    ((w.setCell ⟨w0.heap.size, 0, none⟩ (.string x)).setCell ⟨w0.heap.size, 1, none⟩ (.string y)).cell? ⟨w0.heap.size, 0, none⟩ = some (.string x) ∧ ((w.setCell ⟨w0.heap.size, 0, none⟩ (.string x)).setCell ⟨w0.heap.size, 1, none⟩ (.string y)).cell? ⟨w0.heap.size, 1, none⟩ = some (.string y) :=
  ⟨(h.rd.setN h.zn _).setN h.zn _, grown_setN (grown_setN h.g _ _ (Nat.le_refl _) _) _ _ (Nat.le_refl _) _, (h.z.set x y).c0, (h.z.set x y).c1⟩
/-- the attribute is done: its value stored, the reader moved on. -/
theorem AS.done {w0 w : World} {R : Nat} {s : ByteArray} {q q' : Nat} {out : Value} {fr e : Int} {N : Nat} {nm : ByteArray} (h : AS w0 w R s q out fr e N nm) (V : ByteArray) (x : Int) (hx : x = q') :
    Rd ((((w.setCell ⟨N, 1, none⟩ (.string V)).setCell ⟨R, 1, none⟩ (.int .i64 x)).setCell ⟨w0.heap.size, 0, none⟩ (.string nm)).setCell ⟨w0.heap.size, 1, none⟩ (.string V)) R s q' out fr e ∧
    w0.grownBy ((((w.setCell ⟨N, 1, none⟩ (.string V)).setCell ⟨R, 1, none⟩ (.int .i64 x)).setCell ⟨w0.heap.size, 0, none⟩ (.string nm)).setCell ⟨w0.heap.size, 1, none⟩ (.string V)) (some R) ∧
    ((((w.setCell ⟨N, 1, none⟩ (.string V)).setCell ⟨R, 1, none⟩ (.int .i64 x)).setCell ⟨w0.heap.size, 0, none⟩ (.string nm)).setCell ⟨w0.heap.size, 1, none⟩ (.string V)).cell? ⟨w0.heap.size, 0, none⟩ = some (.string nm) ∧
    ((((w.setCell ⟨N, 1, none⟩ (.string V)).setCell ⟨R, 1, none⟩ (.int .i64 x)).setCell ⟨w0.heap.size, 0, none⟩ (.string nm)).setCell ⟨w0.heap.size, 1, none⟩ (.string V)).cell? ⟨w0.heap.size, 1, none⟩ = some (.string V) := by
  have hN := h.zx
  have hz := ((h.z.setN (b := N) (i := 1) (by omega) (.string V)).setN (b := R) (i := 1) (fun e => h.zn e.symm) (.int .i64 x)).set nm V
  exact ⟨(((h.rd.setN h.xn _).set1 q' x hx).setN h.zn _).setN h.zn _, grown_setN (grown_setN ((grown_setN h.g N 1 (by omega) _).trans (grown_set _ _ _ _)) _ _ (Nat.le_refl _) _) _ _ (Nat.le_refl _) _, hz.c0, hz.c1⟩

def Globs (R : Nat) : Prop := 0 < R ∧ 1 < R ∧ 2 < R
theorem WOK.globs {w : World} (h : WOK w) : Globs w.heap.size := by
  obtain ⟨⟨h1, h2⟩, ⟨m, h3⟩⟩ := h
  exact ⟨World.block_lt_of_cell? w _ (h1 0 (by omega)), World.block_lt_of_cell? w _ (h2 0 (by omega)).1, World.block_lt_of_cell? w _ h3⟩
theorem WOK.low {w w' : World} {R : Nat} (h : WOK w) (hR : Globs R) (hb : Below R w w') : WOK w' := by
  obtain ⟨⟨h1, h2⟩, ⟨m, h3⟩⟩ := h
  have key : ∀ (a : Addr) (v : Value), a.block < R → w.cell? a = some v → w'.cell? a = some v := fun a v hl ha => (hb.cell (p := a) hl).trans ha
  exact ⟨⟨fun c hc => key _ _ hR.1 (h1 c hc), fun i hi => ⟨key _ _ hR.2.1 (h2 i hi).1, key _ _ hR.2.1 (h2 i hi).2⟩⟩, m, key _ _ hR.2.2 h3⟩
theorem WOK.gr {w w' : World} {R : Nat} (h : WOK w) (hR : Globs R) (hl : R < w.heap.size) (hg : w.grownBy w' (some R)) : WOK w' := h.low hR (below_grown hg (Nat.le_refl _) (Nat.le_of_lt hl))

theorem take_t (t : ByteArray) (ht : t.size ≤ 65536) (w : World) (R : Nat) (s : ByteArray) (p : Nat) (out : Value) (fr e : Int) (h : Rd w R s p out fr e) (hs : s.size ≤ 65536) (hp : p ≤ s.size) (hb : Lib.hasPrefix (s.data.toList.drop p) t.data.toList = true) :
    Calls Tryz.prog 85 #[.pointer (some ⟨R, 0, none⟩), .string t] w fun en w' => en = .returned (.bool true) ∧ Rd w' R s (p + t.size) out fr e ∧ w.grownBy w' (some R) := by
  have := take_c t ht w R s p out fr e h hs hp true hb
  simpa using this
theorem take_f (t : ByteArray) (ht : t.size ≤ 65536) (w : World) (R : Nat) (s : ByteArray) (p : Nat) (out : Value) (fr e : Int) (h : Rd w R s p out fr e) (hs : s.size ≤ 65536) (hp : p ≤ s.size) (hb : Lib.hasPrefix (s.data.toList.drop p) t.data.toList = false) :
    Calls Tryz.prog 85 #[.pointer (some ⟨R, 0, none⟩), .string t] w fun en w' => en = .returned (.bool false) ∧ Rd w' R s p out fr e ∧ w.grownBy w' (some R) := by
  have := take_c t ht w R s p out fr e h hs hp false hb
  simpa using this
theorem cut_okW (X sep : ByteArray) (hs : X.size ≤ 2147483648) (i : Nat) (hi : idx X.data.toList sep.data.toList = some i) :
    ∃ B Z : ByteArray, B.data.toList = X.data.toList.take i ∧ B.size = i ∧ ∀ w, WOK w → ∀ n, Calls Tryz.prog 49 #[.string X, .string sep] (w.drewN n) fun e w' => e = .returned (.tuple #[.string B, .string Z, .bool true]) ∧ ∃ m, w' = w.drewN m := by
  refine ⟨⟨(X.data.toList.take i).toArray⟩, ⟨(X.data.toList.drop (i + sep.data.toList.length)).toArray⟩, rfl, ?_, fun w h n => ?_⟩
  · have := (idx_some hi).2.1
    show (List.toArray _).size = i
    simp only [List.size_toArray, List.length_take]; omega
  · have := cut_q X sep w h hs n
    rw [cut_some hi] at this
    exact this
theorem cut_noW (X sep : ByteArray) (hs : X.size ≤ 2147483648) (hi : idx X.data.toList sep.data.toList = none) :
    ∃ B Z : ByteArray, ∀ w, WOK w → ∀ n, Calls Tryz.prog 49 #[.string X, .string sep] (w.drewN n) fun e w' => e = .returned (.tuple #[.string B, .string Z, .bool false]) ∧ ∃ m, w' = w.drewN m := by
  refine ⟨⟨X.data.toList.toArray⟩, ⟨#[]⟩, fun w h n => ?_⟩
  have := cut_q X sep w h hs n
  rw [cut_none hi] at this
  exact this

set_option maxRecDepth 1000000 in
set_option maxHeartbeats 1000000 in
theorem attr_1 (w : World) (R : Nat) (s : ByteArray) (p frm : Nat) (out : Value) (L : Nat) (N : Bytes) (h : Rd w R s p out 0 0) (hs : s.size ≤ 65536) (hp : p + L ≤ s.size) (hw : WOK w) (hR : Globs R)
    (hnm : ∀ W, Rd W R s p out 0 0 → Calls Tryz.prog 86 #[.pointer (some ⟨R, 0, none⟩)] W fun en w' => en = .returned (.string ⟨N.toArray⟩) ∧ Rd w' R s (p + L) out 0 0 ∧ W.grownBy w' (some R)) (hn : N = []) :
    Calls Tryz.prog 88 #[.pointer (some ⟨R, 0, none⟩), .int .i64 frm] w fun en w' => AttrPost R s p frm out (.error none) en w' ∧ w.grownBy w' (some R) := by
  subst hn
  have HC := Lib.hid (And.intro hnm trivial); clear hnm
  have HS := Lib.hid (And.intro hs hp)
  have HW := Lib.hid (And.intro hw hR); clear hw hR
  have H := Lib.hid h; clear h
  have hRl := H.out.lt
  go_enter Tryz.func88, Tryz.ntmps88
  go_wp2_with (first
    | (go_at_call 86; refine (HC.out.1 _ (H.out.alloc _)).mono ?_; rintro en w1 ⟨rfl, hr1, hg1⟩; have hz := (St2.new w ⟨#[]⟩ ⟨#[]⟩).grown hg1 (by have := H.out.lt; omega); have z0 := hz.c0; have z1 := hz.c1; have z2 := hz.fz 0; have z3 := hz.fz 1; have z4 := hz.lt; go_loud (have A1 := Lib.hid (AS.start (nm := ⟨#[]⟩) H.out hr1 hg1); have l1 := hr1.lt); clear hr1 hg1 hz)
    | (go_at_call 83; have gd := A1; clear gd; refine (fail_c _ R s _ out 0 A1.out.rd _ _).mono ?_; rintro en w2 ⟨rfl, hr2, hg2⟩; have ha2 := A1.out.grown hr2 hg2; clear hr2 hg2; have z0_2 := ha2.z.c0; have z1_2 := ha2.z.c1; have z2_2 := ha2.z.fz 0; have z3_2 := ha2.z.fz 1; have x0_2 := ha2.x.c0; have x1_2 := ha2.x.c1; have x2_2 := ha2.x.fz 1; have x3_2 := ha2.x.fz 0; have A2 := Lib.hid ha2; clear ha2))
  have hf := A2.out.fin ⟨#[]⟩ ⟨#[]⟩
  have r0 := hf.2.2.1
  have r1 := hf.2.2.2
  refine bodyPost_ret (by simp [results, Tryz.results88, go_sem, r0, r1]; try rfl) rfl ?_
  exact ⟨⟨⟨_, _, rfl⟩, _, hf.1⟩, hf.2.1⟩

set_option maxRecDepth 1000000 in
set_option maxHeartbeats 1000000 in
theorem attr_2 (w : World) (R : Nat) (s : ByteArray) (p frm : Nat) (out : Value) (L : Nat) (N : Bytes) (h : Rd w R s p out 0 0) (hs : s.size ≤ 65536) (hp : p + L ≤ s.size) (hw : WOK w) (hR : Globs R)
    (hnm : ∀ W, Rd W R s p out 0 0 → Calls Tryz.prog 86 #[.pointer (some ⟨R, 0, none⟩)] W fun en w' => en = .returned (.string ⟨N.toArray⟩) ∧ Rd w' R s (p + L) out 0 0 ∧ W.grownBy w' (some R)) (hne : N.isEmpty = false) (he : Lib.hasPrefix (s.data.toList.drop (p + L)) (ByteArray.mk #[61]).data.toList = false) :
    Calls Tryz.prog 88 #[.pointer (some ⟨R, 0, none⟩), .int .i64 frm] w fun en w' => AttrPost R s p frm out (.error none) en w' ∧ w.grownBy w' (some R) := by
  have HC := Lib.hid (And.intro hnm he); clear hnm he
  have HS := Lib.hid (And.intro hs hp)
  have HW := Lib.hid (And.intro hw hR); clear hw hR
  have H := Lib.hid h; clear h
  have hRl := H.out.lt
  go_enter Tryz.func88, Tryz.ntmps88
  go_wp2_with (first
    | (go_at_call 86; refine (HC.out.1 _ (H.out.alloc _)).mono ?_; rintro en w1 ⟨rfl, hr1, hg1⟩; have hz := (St2.new w ⟨#[]⟩ ⟨#[]⟩).grown hg1 (by have := H.out.lt; omega); have z0 := hz.c0; have z1 := hz.c1; have z2 := hz.fz 0; have z3 := hz.fz 1; have z4 := hz.lt; go_loud (have A1 := Lib.hid (AS.start (nm := ⟨N.toArray⟩) H.out hr1 hg1); have l1 := hr1.lt); clear hr1 hg1 hz)
    | (go_at_call 85; have gd := A1; clear gd; refine (take_f ⟨#[61]⟩ (by decide) _ R s (p + L) out 0 0 A1.out.rd HS.out.1 (by have := HS.out.2; omega) HC.out.2).mono ?_; rintro en w2 ⟨rfl, hr2, hg2⟩; have ha2 := A1.out.grown hr2 hg2; clear hr2 hg2; have z0_2 := ha2.z.c0; have z1_2 := ha2.z.c1; have z2_2 := ha2.z.fz 0; have z3_2 := ha2.z.fz 1; have x0_2 := ha2.x.c0; have x1_2 := ha2.x.c1; have x2_2 := ha2.x.fz 1; have x3_2 := ha2.x.fz 0; have A2 := Lib.hid ha2; clear ha2)
    | (go_at_call 83; have gd := A2; clear gd; refine (fail_c _ R s _ out 0 A2.out.rd _ _).mono ?_; rintro en w3 ⟨rfl, hr3, hg3⟩; have ha3 := A2.out.grown hr3 hg3; clear hr3 hg3; have z0_3 := ha3.z.c0; have z1_3 := ha3.z.c1; have z2_3 := ha3.z.fz 0; have z3_3 := ha3.z.fz 1; have x0_3 := ha3.x.c0; have x1_3 := ha3.x.c1; have x2_3 := ha3.x.fz 1; have x3_3 := ha3.x.fz 0; have A3 := Lib.hid ha3; clear ha3))
  have hf := A3.out.fin ⟨N.toArray⟩ ⟨#[]⟩
  have r0 := hf.2.2.1
  have r1 := hf.2.2.2
  refine bodyPost_ret (by simp [results, Tryz.results88, go_sem, r0, r1]; try rfl) rfl ?_
  exact ⟨⟨⟨_, _, rfl⟩, _, hf.1⟩, hf.2.1⟩

set_option maxRecDepth 1000000 in
set_option maxHeartbeats 1000000 in
theorem attr_3 (w : World) (R : Nat) (s : ByteArray) (p frm : Nat) (out : Value) (L : Nat) (N : Bytes) (h : Rd w R s p out 0 0) (hs : s.size ≤ 65536) (hp : p + L ≤ s.size) (hw : WOK w) (hR : Globs R)
    (hnm : ∀ W, Rd W R s p out 0 0 → Calls Tryz.prog 86 #[.pointer (some ⟨R, 0, none⟩)] W fun en w' => en = .returned (.string ⟨N.toArray⟩) ∧ Rd w' R s (p + L) out 0 0 ∧ W.grownBy w' (some R)) (hne : N.isEmpty = false) (he : Lib.hasPrefix (s.data.toList.drop (p + L)) (ByteArray.mk #[61]).data.toList = true) (hl : p + L + 1 ≤ s.size) (hq : Lib.hasPrefix (s.data.toList.drop (p + L + 1)) (ByteArray.mk #[34]).data.toList = false) :
    Calls Tryz.prog 88 #[.pointer (some ⟨R, 0, none⟩), .int .i64 frm] w fun en w' => AttrPost R s p frm out (.error none) en w' ∧ w.grownBy w' (some R) := by
  have HC := Lib.hid (And.intro hnm (And.intro he (And.intro hq hl))); clear hnm he hq hl
  have HS := Lib.hid (And.intro hs hp)
  have HW := Lib.hid (And.intro hw hR); clear hw hR
  have H := Lib.hid h; clear h
  have hRl := H.out.lt
  go_enter Tryz.func88, Tryz.ntmps88
  go_wp2_with (first
    | (go_at_call 86; refine (HC.out.1 _ (H.out.alloc _)).mono ?_; rintro en w1 ⟨rfl, hr1, hg1⟩; have hz := (St2.new w ⟨#[]⟩ ⟨#[]⟩).grown hg1 (by have := H.out.lt; omega); have z0 := hz.c0; have z1 := hz.c1; have z2 := hz.fz 0; have z3 := hz.fz 1; have z4 := hz.lt; go_loud (have A1 := Lib.hid (AS.start (nm := ⟨N.toArray⟩) H.out hr1 hg1); have l1 := hr1.lt); clear hr1 hg1 hz)
    | (go_at_call 85; have gd := A2; clear gd; refine (take_f ⟨#[34]⟩ (by decide) _ R s (p + L + 1) out 0 0 A2.out.rd HS.out.1 HC.out.2.2.2 HC.out.2.2.1).mono ?_; rintro en w3 ⟨rfl, hr3, hg3⟩; have ha3 := A2.out.grown hr3 hg3; clear hr3 hg3; have z0_3 := ha3.z.c0; have z1_3 := ha3.z.c1; have z2_3 := ha3.z.fz 0; have z3_3 := ha3.z.fz 1; have x0_3 := ha3.x.c0; have x1_3 := ha3.x.c1; have x2_3 := ha3.x.fz 1; have x3_3 := ha3.x.fz 0; have A3 := Lib.hid ha3; clear ha3)
    | (go_at_call 85; have gd := A1; clear gd; refine (take_t ⟨#[61]⟩ (by decide) _ R s (p + L) out 0 0 A1.out.rd HS.out.1 (by have := HS.out.2; omega) HC.out.2.1).mono ?_; rintro en w2 ⟨rfl, hr2, hg2⟩; have ha2 := A1.out.grown hr2 hg2; clear hr2 hg2; have z0_2 := ha2.z.c0; have z1_2 := ha2.z.c1; have z2_2 := ha2.z.fz 0; have z3_2 := ha2.z.fz 1; have x0_2 := ha2.x.c0; have x1_2 := ha2.x.c1; have x2_2 := ha2.x.fz 1; have x3_2 := ha2.x.fz 0; have A2 := Lib.hid ha2; clear ha2)
    | (go_at_call 83; have gd := A3; clear gd; refine (fail_c _ R s _ out 0 A3.out.rd _ _).mono ?_; rintro en w4 ⟨rfl, hr4, hg4⟩; have ha4 := A3.out.grown hr4 hg4; clear hr4 hg4; have z0_4 := ha4.z.c0; have z1_4 := ha4.z.c1; have z2_4 := ha4.z.fz 0; have z3_4 := ha4.z.fz 1; have x0_4 := ha4.x.c0; have x1_4 := ha4.x.c1; have x2_4 := ha4.x.fz 1; have x3_4 := ha4.x.fz 0; have A4 := Lib.hid ha4; clear ha4))
  have hf := A4.out.fin ⟨N.toArray⟩ ⟨#[]⟩
  have r0 := hf.2.2.1
  have r1 := hf.2.2.2
  refine bodyPost_ret (by simp [results, Tryz.results88, go_sem, r0, r1]; try rfl) rfl ?_
  exact ⟨⟨⟨_, _, rfl⟩, _, hf.1⟩, hf.2.1⟩

set_option maxRecDepth 1000000 in
set_option maxHeartbeats 1000000 in
theorem attr_4 (w : World) (R : Nat) (s : ByteArray) (p frm : Nat) (out : Value) (L : Nat) (N : Bytes) (B Z : ByteArray) (h : Rd w R s p out 0 0) (hs : s.size ≤ 65536) (hp : p + L ≤ s.size) (hw : WOK w) (hR : Globs R)
    (hnm : ∀ W, Rd W R s p out 0 0 → Calls Tryz.prog 86 #[.pointer (some ⟨R, 0, none⟩)] W fun en w' => en = .returned (.string ⟨N.toArray⟩) ∧ Rd w' R s (p + L) out 0 0 ∧ W.grownBy w' (some R)) (hne : N.isEmpty = false) (he : Lib.hasPrefix (s.data.toList.drop (p + L)) (ByteArray.mk #[61]).data.toList = true) (hl : p + L + 2 ≤ s.size) (hq : Lib.hasPrefix (s.data.toList.drop (p + L + 1)) (ByteArray.mk #[34]).data.toList = true) (hcut : ∀ w, WOK w → ∀ n, Calls Tryz.prog 49 #[.string (s.extract (p + L + 1 + 1) s.size), .string ⟨#[34]⟩] (w.drewN n) fun e w' => e = .returned (.tuple #[.string B, .string Z, .bool false]) ∧ ∃ m, w' = w.drewN m) :
    Calls Tryz.prog 88 #[.pointer (some ⟨R, 0, none⟩), .int .i64 frm] w fun en w' => AttrPost R s p frm out (.error none) en w' ∧ w.grownBy w' (some R) := by
  have HC := Lib.hid (And.intro hnm (And.intro he (And.intro hq hcut))); clear hnm he hq
  clear hcut
  have hlI : (p : Int) + (L : Int) + 2 ≤ (s.size : Int) := by omega
  have HL := Lib.hid hl; clear hl
  have HS := Lib.hid (And.intro hs hp)
  have HW := Lib.hid (And.intro hw hR); clear hw hR
  have H := Lib.hid h; clear h
  have hRl := H.out.lt
  go_enter Tryz.func88, Tryz.ntmps88
  go_wp2_with (first
    | (go_at_call 86; refine (HC.out.1 _ (H.out.alloc _)).mono ?_; rintro en w1 ⟨rfl, hr1, hg1⟩; have hz := (St2.new w ⟨#[]⟩ ⟨#[]⟩).grown hg1 (by have := H.out.lt; omega); have z0 := hz.c0; have z1 := hz.c1; have z2 := hz.fz 0; have z3 := hz.fz 1; have z4 := hz.lt; go_loud (have A1 := Lib.hid (AS.start (nm := ⟨N.toArray⟩) H.out hr1 hg1); have l1 := hr1.lt); clear hr1 hg1 hz)
    | (go_at_call 85; have gd := A2; clear gd; refine (take_t ⟨#[34]⟩ (by decide) _ R s (p + L + 1) out 0 0 A2.out.rd HS.out.1 (by have := HL.out; omega) HC.out.2.2.1).mono ?_; rintro en w3 ⟨rfl, hr3, hg3⟩; have ha3 := A2.out.grown hr3 hg3; clear hr3 hg3; have z0_3 := ha3.z.c0; have z1_3 := ha3.z.c1; have z2_3 := ha3.z.fz 0; have z3_3 := ha3.z.fz 1; have x0_3 := ha3.x.c0; have x1_3 := ha3.x.c1; have x2_3 := ha3.x.fz 1; have x3_3 := ha3.x.fz 0; have A3 := Lib.hid ha3; clear ha3)
    | (go_at_call 85; have gd := A1; clear gd; refine (take_t ⟨#[61]⟩ (by decide) _ R s (p + L) out 0 0 A1.out.rd HS.out.1 (by have := HS.out.2; omega) HC.out.2.1).mono ?_; rintro en w2 ⟨rfl, hr2, hg2⟩; have ha2 := A1.out.grown hr2 hg2; clear hr2 hg2; have z0_2 := ha2.z.c0; have z1_2 := ha2.z.c1; have z2_2 := ha2.z.fz 0; have z3_2 := ha2.z.fz 1; have x0_2 := ha2.x.c0; have x1_2 := ha2.x.c1; have x2_2 := ha2.x.fz 1; have x3_2 := ha2.x.fz 0; have A2 := Lib.hid ha2; clear ha2))
  have q0 := A3.out.rd.c0
  have q1 := A3.out.rd.c1
  go_quiet (first | (go_at_call 49; refine (HC.out.2.2.2 _ (HW.out.1.gr HW.out.2 hRl A3.out.g) _)))
  have A4 := Lib.hid (A3.out.drewN nq)
  have y0 := A4.out.z.c0; have y1 := A4.out.z.c1; have y2 := A4.out.z.fz 0; have y3 := A4.out.z.fz 1; have v0 := A4.out.x.c0; have v1 := A4.out.x.c1; have v2 := A4.out.x.fz 1
  go_wp2_with (first
    | (go_at_call 83; have gd := A4; clear gd; refine (fail_c _ R s _ out 0 A4.out.rd _ _).mono ?_; rintro en w5 ⟨rfl, hr5, hg5⟩; have ha5 := A4.out.grown hr5 hg5; clear hr5 hg5; have z0_5 := ha5.z.c0; have z1_5 := ha5.z.c1; have z2_5 := ha5.z.fz 0; have z3_5 := ha5.z.fz 1; have x0_5 := ha5.x.c0; have x1_5 := ha5.x.c1; have x2_5 := ha5.x.fz 1; have x3_5 := ha5.x.fz 0; have A5 := Lib.hid ha5; clear ha5))
  have hf := A5.out.fin ⟨N.toArray⟩ ⟨#[]⟩
  have r0 := hf.2.2.1
  have r1 := hf.2.2.2
  refine bodyPost_ret (by simp [results, Tryz.results88, go_sem, r0, r1]; try rfl) rfl ?_
  exact ⟨⟨⟨_, _, rfl⟩, _, hf.1⟩, hf.2.1⟩

set_option maxRecDepth 1000000 in
set_option maxHeartbeats 1000000 in
theorem attr_5 (w : World) (R : Nat) (s : ByteArray) (p frm : Nat) (out : Value) (L : Nat) (N : Bytes) (B Z : ByteArray) (k : Nat) (h : Rd w R s p out 0 0) (hs : s.size ≤ 65536) (hp : p + L ≤ s.size) (hw : WOK w) (hR : Globs R)
    (hnm : ∀ W, Rd W R s p out 0 0 → Calls Tryz.prog 86 #[.pointer (some ⟨R, 0, none⟩)] W fun en w' => en = .returned (.string ⟨N.toArray⟩) ∧ Rd w' R s (p + L) out 0 0 ∧ W.grownBy w' (some R)) (hne : N.isEmpty = false) (he : Lib.hasPrefix (s.data.toList.drop (p + L)) (ByteArray.mk #[61]).data.toList = true) (hl : p + L + 2 ≤ s.size) (hq : Lib.hasPrefix (s.data.toList.drop (p + L + 1)) (ByteArray.mk #[34]).data.toList = true) (hcut : ∀ w, WOK w → ∀ n, Calls Tryz.prog 49 #[.string (s.extract (p + L + 1 + 1) s.size), .string ⟨#[34]⟩] (w.drewN n) fun e w' => e = .returned (.tuple #[.string B, .string Z, .bool true]) ∧ ∃ m, w' = w.drewN m) (hk : (p : Int) + (L : Int) + 2 + (k : Int) ≤ (s.size : Int)) (hu : ∀ W, WOK W → Calls Tryz.prog 25 #[.string B] W fun e w' => e = .returned (.tuple #[.string ⟨#[]⟩, .int .i64 k, .int .i64 6]) ∧ Below W.heap.size W w') :
    Calls Tryz.prog 88 #[.pointer (some ⟨R, 0, none⟩), .int .i64 frm] w fun en w' => AttrPost R s p frm out (.error (some (L + 2 + k, 6))) en w' ∧ w.grownBy w' (some R) := by
  have HC := Lib.hid (And.intro hnm (And.intro he (And.intro hq (And.intro hcut hu)))); clear hnm he hq
  clear hcut hu
  have hlI : (p : Int) + (L : Int) + 2 ≤ (s.size : Int) := by omega
  have HL := Lib.hid hl; clear hl
  have HS := Lib.hid (And.intro hs hp)
  have HW := Lib.hid (And.intro hw hR); clear hw hR
  have H := Lib.hid h; clear h
  have hRl := H.out.lt
  go_enter Tryz.func88, Tryz.ntmps88
  go_wp2_with (first
    | (go_at_call 86; refine (HC.out.1 _ (H.out.alloc _)).mono ?_; rintro en w1 ⟨rfl, hr1, hg1⟩; have hz := (St2.new w ⟨#[]⟩ ⟨#[]⟩).grown hg1 (by have := H.out.lt; omega); have z0 := hz.c0; have z1 := hz.c1; have z2 := hz.fz 0; have z3 := hz.fz 1; have z4 := hz.lt; go_loud (have A1 := Lib.hid (AS.start (nm := ⟨N.toArray⟩) H.out hr1 hg1); have l1 := hr1.lt); clear hr1 hg1 hz)
    | (go_at_call 85; have gd := A2; clear gd; refine (take_t ⟨#[34]⟩ (by decide) _ R s (p + L + 1) out 0 0 A2.out.rd HS.out.1 (by have := HL.out; omega) HC.out.2.2.1).mono ?_; rintro en w3 ⟨rfl, hr3, hg3⟩; have ha3 := A2.out.grown hr3 hg3; clear hr3 hg3; have z0_3 := ha3.z.c0; have z1_3 := ha3.z.c1; have z2_3 := ha3.z.fz 0; have z3_3 := ha3.z.fz 1; have x0_3 := ha3.x.c0; have x1_3 := ha3.x.c1; have x2_3 := ha3.x.fz 1; have x3_3 := ha3.x.fz 0; have A3 := Lib.hid ha3; clear ha3)
    | (go_at_call 85; have gd := A1; clear gd; refine (take_t ⟨#[61]⟩ (by decide) _ R s (p + L) out 0 0 A1.out.rd HS.out.1 (by have := HS.out.2; omega) HC.out.2.1).mono ?_; rintro en w2 ⟨rfl, hr2, hg2⟩; have ha2 := A1.out.grown hr2 hg2; clear hr2 hg2; have z0_2 := ha2.z.c0; have z1_2 := ha2.z.c1; have z2_2 := ha2.z.fz 0; have z3_2 := ha2.z.fz 1; have x0_2 := ha2.x.c0; have x1_2 := ha2.x.c1; have x2_2 := ha2.x.fz 1; have x3_2 := ha2.x.fz 0; have A2 := Lib.hid ha2; clear ha2))
  have q0 := A3.out.rd.c0
  have q1 := A3.out.rd.c1
  go_quiet (first | (go_at_call 49; refine (HC.out.2.2.2.1 _ (HW.out.1.gr HW.out.2 hRl A3.out.g) _)))
  have A4 := Lib.hid (A3.out.drewN nq)
  have y0 := A4.out.z.c0; have y1 := A4.out.z.c1; have y2 := A4.out.z.fz 0; have y3 := A4.out.z.fz 1; have v0 := A4.out.x.c0; have v1 := A4.out.x.c1; have v2 := A4.out.x.fz 1
  go_wp2_with (first
    | (go_at_call 25; have gd := A4; clear gd; refine (HC.out.2.2.2.2 _ (HW.out.1.gr HW.out.2 hRl A4.out.g)).mono ?_; rintro en w5 ⟨rfl, b5⟩; have ha5 := A4.out.below b5; have q2 := ha5.rd.c1; have q3 := ha5.rd.fz 1; have z0_5 := ha5.z.c0; have z1_5 := ha5.z.c1; have z2_5 := ha5.z.fz 0; have z3_5 := ha5.z.fz 1; have x0_5 := ha5.x.c0; have x1_5 := ha5.x.c1; have x2_5 := ha5.x.fz 1; have x3_5 := ha5.x.fz 0; have A5 := Lib.hid ha5; clear ha5)
    | (go_at_call 83; have gd := A5; clear gd; refine (fail_c _ R s _ out 0 A5.out.rd _ _).mono ?_; rintro en w6 ⟨rfl, hr6, hg6⟩; have ha6 := A5.out.grown hr6 hg6; clear hr6 hg6; have z0_6 := ha6.z.c0; have z1_6 := ha6.z.c1; have z2_6 := ha6.z.fz 0; have z3_6 := ha6.z.fz 1; have x0_6 := ha6.x.c0; have x1_6 := ha6.x.c1; have x2_6 := ha6.x.fz 1; have x3_6 := ha6.x.fz 0; have A6 := Lib.hid ha6; clear ha6))
  have hrw : ((p + (L + 2 + k) : Nat) : Int) = (p : Int) + (L : Int) + 1 + 1 + (k : Int) := by omega
  have hf := A6.out.fin ⟨N.toArray⟩ ⟨#[]⟩
  have r0 := hf.2.2.1
  have r1 := hf.2.2.2
  refine bodyPost_ret (by simp [results, Tryz.results88, go_sem, r0, r1]; try rfl) rfl ?_
  exact ⟨⟨⟨_, _, rfl⟩, _, by rw [hrw]; exact hf.1⟩, hf.2.1⟩

set_option maxRecDepth 1000000 in
set_option maxHeartbeats 1000000 in
theorem attr_6 (w : World) (R : Nat) (s : ByteArray) (p frm : Nat) (out : Value) (L : Nat) (N : Bytes) (B Z : ByteArray) (k : Nat) (h : Rd w R s p out 0 0) (hs : s.size ≤ 65536) (hp : p + L ≤ s.size) (hw : WOK w) (hR : Globs R)
    (hnm : ∀ W, Rd W R s p out 0 0 → Calls Tryz.prog 86 #[.pointer (some ⟨R, 0, none⟩)] W fun en w' => en = .returned (.string ⟨N.toArray⟩) ∧ Rd w' R s (p + L) out 0 0 ∧ W.grownBy w' (some R)) (hne : N.isEmpty = false) (he : Lib.hasPrefix (s.data.toList.drop (p + L)) (ByteArray.mk #[61]).data.toList = true) (hl : p + L + 2 ≤ s.size) (hq : Lib.hasPrefix (s.data.toList.drop (p + L + 1)) (ByteArray.mk #[34]).data.toList = true) (hcut : ∀ w, WOK w → ∀ n, Calls Tryz.prog 49 #[.string (s.extract (p + L + 1 + 1) s.size), .string ⟨#[34]⟩] (w.drewN n) fun e w' => e = .returned (.tuple #[.string B, .string Z, .bool true]) ∧ ∃ m, w' = w.drewN m) (hk : (p : Int) + (L : Int) + 2 + (k : Int) ≤ (s.size : Int)) (hu : ∀ W, WOK W → Calls Tryz.prog 25 #[.string B] W fun e w' => e = .returned (.tuple #[.string ⟨#[]⟩, .int .i64 k, .int .i64 7]) ∧ Below W.heap.size W w') :
    Calls Tryz.prog 88 #[.pointer (some ⟨R, 0, none⟩), .int .i64 frm] w fun en w' => AttrPost R s p frm out (.error (some (L + 2 + k, 7))) en w' ∧ w.grownBy w' (some R) := by
  have HC := Lib.hid (And.intro hnm (And.intro he (And.intro hq (And.intro hcut hu)))); clear hnm he hq
  clear hcut hu
  have hlI : (p : Int) + (L : Int) + 2 ≤ (s.size : Int) := by omega
  have HL := Lib.hid hl; clear hl
  have HS := Lib.hid (And.intro hs hp)
  have HW := Lib.hid (And.intro hw hR); clear hw hR
  have H := Lib.hid h; clear h
  have hRl := H.out.lt
  go_enter Tryz.func88, Tryz.ntmps88
  go_wp2_with (first
    | (go_at_call 86; refine (HC.out.1 _ (H.out.alloc _)).mono ?_; rintro en w1 ⟨rfl, hr1, hg1⟩; have hz := (St2.new w ⟨#[]⟩ ⟨#[]⟩).grown hg1 (by have := H.out.lt; omega); have z0 := hz.c0; have z1 := hz.c1; have z2 := hz.fz 0; have z3 := hz.fz 1; have z4 := hz.lt; go_loud (have A1 := Lib.hid (AS.start (nm := ⟨N.toArray⟩) H.out hr1 hg1); have l1 := hr1.lt); clear hr1 hg1 hz)
    | (go_at_call 85; have gd := A2; clear gd; refine (take_t ⟨#[34]⟩ (by decide) _ R s (p + L + 1) out 0 0 A2.out.rd HS.out.1 (by have := HL.out; omega) HC.out.2.2.1).mono ?_; rintro en w3 ⟨rfl, hr3, hg3⟩; have ha3 := A2.out.grown hr3 hg3; clear hr3 hg3; have z0_3 := ha3.z.c0; have z1_3 := ha3.z.c1; have z2_3 := ha3.z.fz 0; have z3_3 := ha3.z.fz 1; have x0_3 := ha3.x.c0; have x1_3 := ha3.x.c1; have x2_3 := ha3.x.fz 1; have x3_3 := ha3.x.fz 0; have A3 := Lib.hid ha3; clear ha3)
    | (go_at_call 85; have gd := A1; clear gd; refine (take_t ⟨#[61]⟩ (by decide) _ R s (p + L) out 0 0 A1.out.rd HS.out.1 (by have := HS.out.2; omega) HC.out.2.1).mono ?_; rintro en w2 ⟨rfl, hr2, hg2⟩; have ha2 := A1.out.grown hr2 hg2; clear hr2 hg2; have z0_2 := ha2.z.c0; have z1_2 := ha2.z.c1; have z2_2 := ha2.z.fz 0; have z3_2 := ha2.z.fz 1; have x0_2 := ha2.x.c0; have x1_2 := ha2.x.c1; have x2_2 := ha2.x.fz 1; have x3_2 := ha2.x.fz 0; have A2 := Lib.hid ha2; clear ha2))
  have q0 := A3.out.rd.c0
  have q1 := A3.out.rd.c1
  go_quiet (first | (go_at_call 49; refine (HC.out.2.2.2.1 _ (HW.out.1.gr HW.out.2 hRl A3.out.g) _)))
  have A4 := Lib.hid (A3.out.drewN nq)
  have y0 := A4.out.z.c0; have y1 := A4.out.z.c1; have y2 := A4.out.z.fz 0; have y3 := A4.out.z.fz 1; have v0 := A4.out.x.c0; have v1 := A4.out.x.c1; have v2 := A4.out.x.fz 1
  go_wp2_with (first
    | (go_at_call 25; have gd := A4; clear gd; refine (HC.out.2.2.2.2 _ (HW.out.1.gr HW.out.2 hRl A4.out.g)).mono ?_; rintro en w5 ⟨rfl, b5⟩; have ha5 := A4.out.below b5; have q2 := ha5.rd.c1; have q3 := ha5.rd.fz 1; have z0_5 := ha5.z.c0; have z1_5 := ha5.z.c1; have z2_5 := ha5.z.fz 0; have z3_5 := ha5.z.fz 1; have x0_5 := ha5.x.c0; have x1_5 := ha5.x.c1; have x2_5 := ha5.x.fz 1; have x3_5 := ha5.x.fz 0; have A5 := Lib.hid ha5; clear ha5)
    | (go_at_call 83; have gd := A5; clear gd; refine (fail_c _ R s _ out 0 A5.out.rd _ _).mono ?_; rintro en w6 ⟨rfl, hr6, hg6⟩; have ha6 := A5.out.grown hr6 hg6; clear hr6 hg6; have z0_6 := ha6.z.c0; have z1_6 := ha6.z.c1; have z2_6 := ha6.z.fz 0; have z3_6 := ha6.z.fz 1; have x0_6 := ha6.x.c0; have x1_6 := ha6.x.c1; have x2_6 := ha6.x.fz 1; have x3_6 := ha6.x.fz 0; have A6 := Lib.hid ha6; clear ha6))
  have hrw : ((p + (L + 2 + k) : Nat) : Int) = (p : Int) + (L : Int) + 1 + 1 + (k : Int) := by omega
  have hf := A6.out.fin ⟨N.toArray⟩ ⟨#[]⟩
  have r0 := hf.2.2.1
  have r1 := hf.2.2.2
  refine bodyPost_ret (by simp [results, Tryz.results88, go_sem, r0, r1]; try rfl) rfl ?_
  exact ⟨⟨⟨_, _, rfl⟩, _, by rw [hrw]; exact hf.1⟩, hf.2.1⟩

set_option maxRecDepth 1000000 in
set_option maxHeartbeats 1000000 in
theorem attr_7 (w : World) (R : Nat) (s : ByteArray) (p frm : Nat) (out : Value) (L : Nat) (N : Bytes) (B Z V : ByteArray) (i : Nat) (h : Rd w R s p out 0 0) (hs : s.size ≤ 65536) (hp : p + L ≤ s.size) (hw : WOK w) (hR : Globs R)
    (hnm : ∀ W, Rd W R s p out 0 0 → Calls Tryz.prog 86 #[.pointer (some ⟨R, 0, none⟩)] W fun en w' => en = .returned (.string ⟨N.toArray⟩) ∧ Rd w' R s (p + L) out 0 0 ∧ W.grownBy w' (some R)) (hne : N.isEmpty = false) (he : Lib.hasPrefix (s.data.toList.drop (p + L)) (ByteArray.mk #[61]).data.toList = true) (hl : p + L + 2 ≤ s.size) (hq : Lib.hasPrefix (s.data.toList.drop (p + L + 1)) (ByteArray.mk #[34]).data.toList = true) (hcut : ∀ w, WOK w → ∀ n, Calls Tryz.prog 49 #[.string (s.extract (p + L + 1 + 1) s.size), .string ⟨#[34]⟩] (w.drewN n) fun e w' => e = .returned (.tuple #[.string B, .string Z, .bool true]) ∧ ∃ m, w' = w.drewN m) (hB : (p : Int) + (L : Int) + 2 + (i : Int) + 1 ≤ (s.size : Int)) (hBs : B.size = i) (hu : ∀ W, WOK W → Calls Tryz.prog 25 #[.string B] W fun e w' => e = .returned (.tuple #[.string V, .int .i64 0, .int .i64 0]) ∧ Below W.heap.size W w') :
    Calls Tryz.prog 88 #[.pointer (some ⟨R, 0, none⟩), .int .i64 frm] w fun en w' => AttrPost R s p frm out (.ok (⟨N, V.data.toList⟩, L + 2 + i + 1)) en w' ∧ w.grownBy w' (some R) := by
  have HC := Lib.hid (And.intro hnm (And.intro he (And.intro hq (And.intro hcut hu)))); clear hnm he hq
  clear hcut hu
  have hlI : (p : Int) + (L : Int) + 2 ≤ (s.size : Int) := by omega
  have HL := Lib.hid hl; clear hl
  have HS := Lib.hid (And.intro hs hp)
  have HW := Lib.hid (And.intro hw hR); clear hw hR
  have H := Lib.hid h; clear h
  have hRl := H.out.lt
  go_enter Tryz.func88, Tryz.ntmps88
  go_wp2_with (first
    | (go_at_call 86; refine (HC.out.1 _ (H.out.alloc _)).mono ?_; rintro en w1 ⟨rfl, hr1, hg1⟩; have hz := (St2.new w ⟨#[]⟩ ⟨#[]⟩).grown hg1 (by have := H.out.lt; omega); have z0 := hz.c0; have z1 := hz.c1; have z2 := hz.fz 0; have z3 := hz.fz 1; have z4 := hz.lt; go_loud (have A1 := Lib.hid (AS.start (nm := ⟨N.toArray⟩) H.out hr1 hg1); have l1 := hr1.lt); clear hr1 hg1 hz)
    | (go_at_call 85; have gd := A2; clear gd; refine (take_t ⟨#[34]⟩ (by decide) _ R s (p + L + 1) out 0 0 A2.out.rd HS.out.1 (by have := HL.out; omega) HC.out.2.2.1).mono ?_; rintro en w3 ⟨rfl, hr3, hg3⟩; have ha3 := A2.out.grown hr3 hg3; clear hr3 hg3; have z0_3 := ha3.z.c0; have z1_3 := ha3.z.c1; have z2_3 := ha3.z.fz 0; have z3_3 := ha3.z.fz 1; have x0_3 := ha3.x.c0; have x1_3 := ha3.x.c1; have x2_3 := ha3.x.fz 1; have x3_3 := ha3.x.fz 0; have A3 := Lib.hid ha3; clear ha3)
    | (go_at_call 85; have gd := A1; clear gd; refine (take_t ⟨#[61]⟩ (by decide) _ R s (p + L) out 0 0 A1.out.rd HS.out.1 (by have := HS.out.2; omega) HC.out.2.1).mono ?_; rintro en w2 ⟨rfl, hr2, hg2⟩; have ha2 := A1.out.grown hr2 hg2; clear hr2 hg2; have z0_2 := ha2.z.c0; have z1_2 := ha2.z.c1; have z2_2 := ha2.z.fz 0; have z3_2 := ha2.z.fz 1; have x0_2 := ha2.x.c0; have x1_2 := ha2.x.c1; have x2_2 := ha2.x.fz 1; have x3_2 := ha2.x.fz 0; have A2 := Lib.hid ha2; clear ha2))
  have q0 := A3.out.rd.c0
  have q1 := A3.out.rd.c1
  go_quiet (first | (go_at_call 49; refine (HC.out.2.2.2.1 _ (HW.out.1.gr HW.out.2 hRl A3.out.g) _)))
  have A4 := Lib.hid (A3.out.drewN nq)
  have y0 := A4.out.z.c0; have y1 := A4.out.z.c1; have y2 := A4.out.z.fz 0; have y3 := A4.out.z.fz 1; have v0 := A4.out.x.c0; have v1 := A4.out.x.c1; have v2 := A4.out.x.fz 1
  go_wp2_with (first
    | (go_at_call 25; have gd := A4; clear gd; refine (HC.out.2.2.2.2 _ (HW.out.1.gr HW.out.2 hRl A4.out.g)).mono ?_; rintro en w5 ⟨rfl, b5⟩; have ha5 := A4.out.below b5; have q2 := ha5.rd.c1; have q3 := ha5.rd.fz 1; have z0_5 := ha5.z.c0; have z1_5 := ha5.z.c1; have z2_5 := ha5.z.fz 0; have z3_5 := ha5.z.fz 1; have x0_5 := ha5.x.c0; have x1_5 := ha5.x.c1; have x2_5 := ha5.x.fz 1; have x3_5 := ha5.x.fz 0; have A5 := Lib.hid ha5; clear ha5))
  have hf := A5.out.done (q' := p + (L + 2 + i + 1)) V ((p : Int) + (L : Int) + 1 + 1 + ((i : Int) + 1)) (by omega)
  have r0 := hf.2.2.1
  have r1 := hf.2.2.2
  refine bodyPost_ret (by simp [results, Tryz.results88, go_sem, r0, r1]; try rfl) rfl ?_
  refine ⟨⟨?_, hf.1⟩, hf.2.1⟩
  show Ending.returned (.tuple #[.agg #[.string ⟨N.toArray⟩, .string V], .bool true]) = Ending.returned (.tuple #[.agg #[.string ⟨N.toArray⟩, .string ⟨V.data.toList.toArray⟩], .bool true])
  rw [ba_eta]
end Go.Proofs.YtcicibeggkmlcaaGreatDoor
