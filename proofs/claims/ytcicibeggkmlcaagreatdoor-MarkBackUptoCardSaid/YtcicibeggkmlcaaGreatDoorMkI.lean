/- The reader of marks in the midst of a tag. Conditions: as in the text before. -/
import Derived.Test.YtcicibeggkmlcaaGreatDoorMkH
namespace Go.Proofs.YtcicibeggkmlcaaGreatDoor
open Go.RowKit Go.Sof

/-- what tag has at hand: the reader, the mark's own block, the attributes' own row. -/
structure TG (w0 w : World) (R : Nat) (s : ByteArray) (q : Nat) (out : Value) (fr e : Int) (kd : Int) (frm : Nat) (N : Bytes) (av : Value) (al : List PAttr) : Prop where
  g : w0.grownBy w (some R)
  rd : Rd w R s q out fr e
  m : w.heap[w0.heap.size]? = some (.cells #[.int .i64 kd, .int .i64 frm, .string ⟨N.toArray⟩, av, .string ⟨#[]⟩] 41 (0, 0))
  own : w.ownsRow (w0.heap.size + 1) 58 2 av al.length (attrCells al)
  lt : R < w0.heap.size

section
variable {w0 w w' : World} {R : Nat} {s : ByteArray} {q q' : Nat} {out : Value} {fr e fr' e' : Int} {kd : Int} {frm : Nat} {N : Bytes} {av : Value} {al : List PAttr}
theorem TG.grown (h : TG w0 w R s q out fr e kd frm N av al) (hr : Rd w' R s q' out fr' e') (hg : w.grownBy w' (some R)) : TG w0 w' R s q' out fr' e' kd frm N av al :=
  ⟨h.g.trans hg, hr, (hg.block _ (Array.getElem?_eq_some_iff.1 h.m).1 (fun e => by have := h.lt; cases e; omega)).trans h.m,
   ownsRow_keep h.own (fun k hk => by
    obtain ⟨hb, cur, hc⟩ := own_block h.own k hk
    exact hg.block k (Array.getElem?_eq_some_iff.1 hc).1 (fun e => by have := h.lt; cases e; omega)), h.lt⟩
theorem TG.below (h : TG w0 w R s q out fr e kd frm N av al) (hb : Below w.heap.size w w') : TG w0 w' R s q out fr e kd frm N av al := h.grown (h.rd.below hb) (grown_below hb _)
theorem TG.drewN (h : TG w0 w R s q out fr e kd frm N av al) (n : Nat) : TG w0 (w.drewN n) R s q out fr e kd frm N av al := h.below ⟨rfl, rfl, rfl, Nat.le_refl _, fun _ _ => rfl⟩
theorem TG.sz (h : TG w0 w R s q out fr e kd frm N av al) : w0.heap.size < w.heap.size := (Array.getElem?_eq_some_iff.1 h.m).1
theorem TG.m0 (h : TG w0 w R s q out fr e kd frm N av al) : w.cell? ⟨w0.heap.size, 0, none⟩ = some (.int .i64 kd) := by have := h.m; unfold World.cell?; rw [this]; rfl
theorem TG.m1 (h : TG w0 w R s q out fr e kd frm N av al) : w.cell? ⟨w0.heap.size, 1, none⟩ = some (.int .i64 frm) := by have := h.m; unfold World.cell?; rw [this]; rfl
theorem TG.m2 (h : TG w0 w R s q out fr e kd frm N av al) : w.cell? ⟨w0.heap.size, 2, none⟩ = some (.string ⟨N.toArray⟩) := by have := h.m; unfold World.cell?; rw [this]; rfl
theorem TG.m3 (h : TG w0 w R s q out fr e kd frm N av al) : w.cell? ⟨w0.heap.size, 3, none⟩ = some av := by have := h.m; unfold World.cell?; rw [this]; rfl
theorem TG.m4 (h : TG w0 w R s q out fr e kd frm N av al) : w.cell? ⟨w0.heap.size, 4, none⟩ = some (.string ⟨#[]⟩) := by have := h.m; unfold World.cell?; rw [this]; rfl
theorem TG.fz (h : TG w0 w R s q out fr e kd frm N av al) (i : Nat) : w.frozen? ⟨w0.heap.size, i, none⟩ = false := by have := h.m; unfold World.frozen?; rw [this]; simp
theorem TG.ne (h : TG w0 w R s q out fr e kd frm N av al) : w0.heap.size ≠ R := by have := h.lt; omega
theorem TG.start (h : Rd w R s q out 0 0) (x : Int) (hx : x = q') (kd : Int) : TG w ((w.setCell ⟨R, 1, none⟩ (.int .i64 x)).alloc (.cells #[.int .i64 kd, .int .i64 frm, .string ⟨#[]⟩, .slice none 0 0, .string ⟨#[]⟩] 41)) R s q' out 0 0 kd frm [] (.slice none 0 0) [] := by
  have hs : (w.setCell ⟨R, 1, none⟩ (.int .i64 x)).heap.size = w.heap.size := by simp [World.setCell]
  refine ⟨(grown_set w R 1 _).trans (grown_alloc _ _ _), (h.set1 q' x hx).alloc _, ?_, World.ownsRow_nil _ _ _ _, h.lt⟩
  have := heap_alloc_new (w.setCell ⟨R, 1, none⟩ (.int .i64 x)) (.cells #[.int .i64 kd, .int .i64 frm, .string ⟨#[]⟩, .slice none 0 0, .string ⟨#[]⟩] 41)
  rw [hs] at this; exact this
theorem TG.setM (h : TG w0 w R s q out fr e kd frm N av al) (i : Nat) (v : Value) : w0.grownBy (w.setCell ⟨w0.heap.size, i, none⟩ v) (some R) ∧ Rd (w.setCell ⟨w0.heap.size, i, none⟩ v) R s q out fr e ∧ (w.setCell ⟨w0.heap.size, i, none⟩ v).ownsRow (w0.heap.size + 1) 58 2 av al.length (attrCells al) :=
  ⟨grown_setN h.g _ _ (Nat.le_refl _) _, h.rd.setN h.ne _, ownsRow_setCell_below h.own (by show w0.heap.size < _; omega) _⟩
theorem TG.kind (h : TG w0 w R s q out fr e kd frm N av al) (k : Int) : TG w0 (w.setCell ⟨w0.heap.size, 0, none⟩ (.int .i64 k)) R s q out fr e k frm N av al :=
  let ⟨a, b, c⟩ := h.setM 0 (.int .i64 k); ⟨a, b, heap_setCell_same w _ 0 _ _ _ h.m, c, h.lt⟩
theorem TG.name (h : TG w0 w R s q out fr e kd frm N av al) (K : Bytes) : TG w0 (w.setCell ⟨w0.heap.size, 2, none⟩ (.string ⟨K.toArray⟩)) R s q out fr e kd frm K av al :=
  let ⟨a, b, c⟩ := h.setM 2 (.string ⟨K.toArray⟩); ⟨a, b, heap_setCell_same w _ 2 _ _ _ h.m, c, h.lt⟩
/-- an attribute more. -/
theorem TG.attr {wA w4 : World} {av' : Value} {a : PAttr} (h : TG w0 w R s q out fr e kd frm N av al) (hA : Below w.heap.size w wA) (hg : wA.grownBy w4 av.ownBlock) (hown : w4.ownsRow (w0.heap.size + 1) 58 2 av' (al.length + 1) (attrCells al ++ attrCell a)) :
    TG w0 (w4.setCell ⟨w0.heap.size, 3, none⟩ av') R s q out fr e kd frm N av' (al ++ [a]) ∧ Rd w4 R s q out fr e ∧ w4.cell? ⟨w0.heap.size, 3, none⟩ = some av ∧ w4.frozen? ⟨w0.heap.size, 3, none⟩ = false := by
  have hB := h.below hA
  have hno : ∀ k, k ≤ w0.heap.size → some k ≠ av.ownBlock := fun k hk e => by have := (own_block h.own k e.symm).1; omega
  have hm := (hg.block _ (Array.getElem?_eq_some_iff.1 hB.m).1 (hno _ (Nat.le_refl _))).trans hB.m
  have hr := hB.rd.grown hg (hno R (Nat.le_of_lt h.lt))
  have hg4 : w0.grownBy w4 (some R) := ⟨hg.os.trans hB.g.os, hg.tape.trans hB.g.tape, hg.output.trans hB.g.output, Nat.le_trans hB.g.size hg.size, fun k hk hn => (hg.block k (by have := hB.sz; omega) (hno k (Nat.le_of_lt hk))).trans (hB.g.block k hk hn)⟩
  refine ⟨⟨grown_setN hg4 _ _ (Nat.le_refl _) _, hr.setN h.ne _, heap_setCell_same w4 _ 3 _ _ _ hm, ?_, h.lt⟩, hr, ?_, ?_⟩
  · rw [List.length_append, show attrCells (al ++ [a]) = attrCells al ++ attrCell a from by simp [attrCells]]
    exact ownsRow_setCell_below hown (by show w0.heap.size < _; omega) _
  · unfold World.cell?; rw [hm]; rfl
  · unfold World.frozen?; rw [hm]; simp
theorem TG.attrs (h : TG w0 w R s q out fr e kd frm N av al) : AttrsO w av al := by
  rcases own_attrs h.own with hn | ⟨g, cap, hv, _, _, cur, hc, hcur⟩
  · exact .inl hn
  · exact .inr ⟨g, 0, cap, cur, _, hv, hc, hcur⟩
theorem TG.rt {p : Nat} {xs : List Value} {ms : List PMark} (h : TG w0 w R s q out 0 0 kd frm N av al) (h0 : RT w0 R s p out xs ms) : RT w R s q out xs ms := h0.grown h.g h.rd
theorem TG.wok (h : TG w0 w R s q out fr e kd frm N av al) (hw : WOK w0) (hR : Globs R) : WOK w := hw.gr hR h.lt h.g
end
theorem A_infoA : (Tryz.prog.info? 58).map (fun i => (i.zero.map (fun z => z.cells.size), i.size, decide (i.bytes ≤ 64))) = some (some 2, 2, true) := by kernel_rfl
theorem info_attr : ∃ i z bytes, Tryz.prog.info? 58 = some i ∧ i.zero = some z ∧ i.size = 2 ∧ i.bytes = bytes ∧ z.cells.size = 2 ∧ bytes ≤ 64 := by
  have h := A_infoA
  obtain ⟨i, hi, hz⟩ := Option.map_eq_some_iff.1 h
  simp only [Prod.mk.injEq, Option.map_eq_some_iff, decide_eq_true_eq] at hz
  obtain ⟨⟨z, hz0, hz1⟩, hz2, hz3⟩ := hz
  exact ⟨i, z, i.bytes, hi, hz0, hz2, rfl, hz1, hz3⟩

/-- A REGION THAT DRAWS: its first two operations stand ahead of all others; what follows only reads. -/
theorem wp_region_two {P : Program} {id : Nat} {Q : Exit → Act → World → Prop} {a : Act} {w : World} {o0 o1 : Oper} {l : List Oper} (hm : P.follows .mixedOrders = true)
    (hr0 : Region.ready .any (o0 :: o1 :: l).toArray (Array.replicate (o0 :: o1 :: l).toArray.size false) = [0])
    (hr1 : Region.ready .any (o0 :: o1 :: l).toArray ((Array.replicate (o0 :: o1 :: l).toArray.size false).setIfInBounds 0 true) = [1])
    (hns : Region.noSelect (o0 :: o1 :: l).toArray = true)
    (hB : Region.lexFrom .any (o0 :: o1 :: l).toArray l.length 2 (((Array.replicate (o0 :: o1 :: l).toArray.size false).setIfInBounds 0 true).setIfInBounds 1 true) = true)
    (hg0 : o0.guard = none) (hg1 : o1.guard = none)
    (h : o0.wp P a w.drew (fun a1 w1 => o1.wp P a1 w1 (fun a2 w2 => wpQuiet P (o0 :: o1 :: l).toArray (fun w' => ∃ n, w' = w2.drewN n) (fun a' => ∀ w', (∃ n, w' = w2.drewN n) → Q .normal a' w') l a2) Q) Q) :
    (Code.region id (o0 :: o1 :: l).toArray true).wp P Q a w := by
  refine wp_region_any hm ?_
  have hsz : (o0 :: o1 :: l).toArray.size = l.length + 1 + 1 := by simp
  generalize hL : Array.replicate (o0 :: o1 :: l).toArray.size false = L at *
  rw [hsz]
  refine ⟨fun e => (by rw [hr0] at e; cases e), fun i hi => ?_⟩
  rw [hr0, List.mem_singleton] at hi
  subst hi
  unfold wpOp
  simp only [List.getElem?_toArray, List.getElem?_cons_zero]
  rw [if_pos (by simp [Region.wanted, hg0])]
  refine .inl (Oper.wp_mono (fun a1 w1 h1 => ?_) h)
  refine ⟨fun e => (by rw [hr1] at e; cases e), fun i hi => ?_⟩
  rw [hr1, List.mem_singleton] at hi
  subst hi
  unfold wpOp
  simp only [List.getElem?_toArray, List.getElem?_cons_succ, List.getElem?_cons_zero]
  rw [if_pos (by simp [Region.wanted, hg1])]
  refine .inl (Oper.wp_mono (fun a2 w2 h2 => ?_) h1)
  exact wpAny_of_quiet (C := fun w' => ∃ n, w' = w2.drewN n) (Q := fun a' => ∀ w', (∃ n, w' = w2.drewN n) → Q .normal a' w') (fun a' w' hw' hq => hq w' hw') _ _ _ _ ⟨0, rfl⟩
    (wpAnyQ_lex hns l 2 _ _ (fun j => by simp [Nat.add_comm 2 j]) hB h2)
end Go.Proofs.YtcicibeggkmlcaaGreatDoor
