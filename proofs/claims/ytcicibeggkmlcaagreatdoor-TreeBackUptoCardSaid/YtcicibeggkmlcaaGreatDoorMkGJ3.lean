/- The walk of the reader of marks: attr, whole. Conditions: as in the text before. The walk of slices.ContainsFunc over attributes, with the reader's own closure. Conditions: the attributes lie in memory. The reader of marks in the midst of a tag. Conditions: as in the text before. -/
import Derived.Test.YtcicibeggkmlcaaGreatDoorMkF
namespace Go.Proofs.YtcicibeggkmlcaaGreatDoor
open Go.RowKit Go.Sof

theorem attr_c (w : World) (R : Nat) (s : ByteArray) (p frm : Nat) (out : Value) (h : Rd w R s p out 0 0) (hs : s.size ≤ 65536) (hp : p ≤ s.size) (hw : WOK w) (hR : Globs R) :
    Calls Tryz.prog 88 #[.pointer (some ⟨R, 0, none⟩), .int .i64 frm] w fun en w' => AttrPost R s p frm out (attrP (s.data.toList.drop p)) en w' ∧ w.grownBy w' (some R) := by
  have hnm := fun W hW => nm_c W R s p out 0 0 hW hs hp
  have hle := nameP_le (s.data.toList.drop p)
  have hsl : s.data.toList.length = s.size := Array.length_toList
  unfold attrP
  generalize nameP (s.data.toList.drop p) = N at *
  rw [List.length_drop, hsl] at hle
  have hpL : p + N.length ≤ s.size := by omega
  by_cases hn : N = []
  · rw [if_pos hn]
    exact attr_1 w R s p frm out N.length N h hs hpL hw hR (by subst hn; exact hnm) hn
  · rw [if_neg hn]
    have hne : N.isEmpty = false := by simpa using hn
    rw [List.drop_drop, List.drop_drop, List.drop_drop]
    cases he : Lib.hasPrefix (s.data.toList.drop (p + N.length)) [61] with
    | false =>
      rw [if_pos rfl]
      exact attr_2 w R s p frm out N.length N h hs hpL hw hR hnm hne he
    | true =>
      rw [if_neg (by simp)]
      have h1 := hp_drop_lt he
      rw [hsl] at h1
      rw [show p + (N.length + 1) = p + N.length + 1 from by omega]
      cases hq : Lib.hasPrefix (s.data.toList.drop (p + N.length + 1)) [34] with
      | false =>
        rw [if_pos rfl]
        exact attr_3 w R s p frm out N.length N h hs hpL hw hR hnm hne he (by omega) hq
      | true =>
        rw [if_neg (by simp)]
        have h2 := hp_drop_lt hq
        rw [hsl] at h2
        have hXl := Lib.extract_to_end s (p + N.length + 1 + 1)
        rw [show p + (N.length + 2) = p + N.length + 1 + 1 from by omega]
        cases hi : idx (s.data.toList.drop (p + N.length + 1 + 1)) [34] with
        | none =>
          obtain ⟨B, Z, hcut⟩ := cut_noW (s.extract (p + N.length + 1 + 1) s.size) ⟨#[34]⟩ (by simp; omega) (by rw [hXl]; exact hi)
          exact attr_4 w R s p frm out N.length N B Z h hs hpL hw hR hnm hne he (by omega) hq hcut
        | some i =>
          obtain ⟨B, Z, hBl, hBs, hcut⟩ := cut_okW (s.extract (p + N.length + 1 + 1) s.size) ⟨#[34]⟩ (by simp; omega) i (by rw [hXl]; exact hi)
          have hi2 := (idx_some hi).2.1
          simp only [List.length_drop, List.length_cons, List.length_nil, hsl] at hi2
          rw [hXl] at hBl
          have hu := fun W hW => unescape_c B W hW (by omega)
          simp only
          rw [← hBl]
          cases hun : un B.data.toList with
          | error x =>
            obtain ⟨k, e⟩ := x
            obtain ⟨hk, he2⟩ := un_err _ _ (Nat.le_refl _) _ _ hun
            rw [show B.data.toList.length = B.size from Array.length_toList, hBs] at hk
            rw [show unR B.data.toList = ([], k, e) from by unfold unR; rw [hun], show unV ([], k, e) = .tuple #[.string ⟨#[]⟩, .int .i64 k, .int .i64 e] from rfl] at hu
            rcases he2 with rfl | rfl
            · exact attr_5 w R s p frm out N.length N B Z k h hs hpL hw hR hnm hne he (by omega) hq hcut (by omega) hu
            · exact attr_6 w R s p frm out N.length N B Z k h hs hpL hw hR hnm hne he (by omega) hq hcut (by omega) hu
          | ok t =>
            rw [show unR B.data.toList = (t, 0, 0) from by unfold unR; rw [hun], show unV (t, 0, 0) = .tuple #[.string ⟨t.toArray⟩, .int .i64 0, .int .i64 0] from rfl] at hu
            exact attr_7 w R s p frm out N.length N B Z ⟨t.toArray⟩ i h hs hpL hw hR hnm hne he (by omega) hq hcut (by omega) hBs hu
end Go.Proofs.YtcicibeggkmlcaaGreatDoor

namespace Go.Proofs.YtcicibeggkmlcaaGreatDoor
open Go.RowKit Go.Sof

set_option maxRecDepth 1000000 in
set_option maxHeartbeats 1000000 in
theorem same_c (w : World) (A : Nat) (X N Y : Bytes) (h : w.cell? ⟨A, 0, none⟩ = some (.string ⟨N.toArray⟩)) :
    Calls Tryz.prog 89 #[.agg #[.string ⟨X.toArray⟩, .string ⟨Y.toArray⟩], .pointer (some ⟨A, 0, none⟩)] w fun en w' => en = .returned (.bool (X == N)) ∧ Below w.heap.size w w' := by
  have hl := World.block_lt_of_cell? w _ h
  go_enter Tryz.func89, Tryz.ntmps89
  go_wp2_with fail
  go_ret
  exact ⟨rfl, (Below.refl _ w).alloc (Nat.le_refl _) _⟩

set_option maxRecDepth 1000000 in
set_option maxHeartbeats 1000000 in
theorem idxf_c (w : World) (A b n c : Nat) (al : List PAttr) (N : Bytes) (h : w.cell? ⟨A, 0, none⟩ = some (.string ⟨N.toArray⟩)) (hn : al.length = n) (hb : n ≤ 65537)
    (hc : ∀ j (hj : j < al.length), w.cell? ⟨b, j * 2, none⟩ = some (.string ⟨(al[j]'hj).name.toArray⟩) ∧ w.cell? ⟨b, j * 2 + 1, none⟩ = some (.string ⟨(al[j]'hj).value.toArray⟩)) :
    Calls Tryz.prog 68 #[.slice (some ⟨b, 0, none⟩) n c, .func (.func 89) #[] #[.pointer (some ⟨A, 0, none⟩)]] w fun en w' => (∃ i : Int, en = .returned (.int .i64 i) ∧ decide (0 ≤ i) = al.any (fun x => x.name == N)) ∧ Below w.heap.size w w' := by
  go_enter Tryz.func68, Tryz.ntmps68
  go_wp2_with fail
  go_loopg [8] n (fun g i wr => Below w.heap.size w wr ∧ ∃ k : Nat, k ≤ n ∧ g = n - k ∧ i = .int .i64 k ∧ ∀ j (hj : j < al.length), j < k → (al[j]'hj).name ≠ N)
  case atStart => exact ⟨Below.refl _ _, 0, Nat.zero_le _, rfl, rfl, fun j _ hj => absurd hj (by omega)⟩
  case round =>
    obtain ⟨hb1, k, hk, hg, rfl, ha⟩ := hrel
    have hcell : ∀ (a : Addr) (v : Value), w.cell? a = some v → wr.cell? a = some v := fun a v ha => (hb1.cell (p := a) (World.block_lt_of_cell? w a ha)).trans ha
    have hA := hcell _ _ h
    by_cases hlt : k < n
    · have hka : k < al.length := by omega
      have e0 := hcell _ _ (hc k hka).1
      have e1 := hcell _ _ (hc k hka).2
      obtain ⟨x, hx⟩ : ∃ x, x = al[k]'hka := ⟨_, rfl⟩
      rw [← hx] at e0 e1
      obtain ⟨bb, hbb⟩ : ∃ bb, bb = (x.name == N) := ⟨_, rfl⟩
      have hcl := same_c wr A x.name N x.value hA
      rw [← hbb] at hcl
      have HK := Lib.hid (And.intro hb1 (And.intro hg ha)); clear hb1 hg ha hcell hc h
      have HX := Lib.hid (And.intro hx hbb); clear hx hbb
      have HN := Lib.hid hn; clear hn
      cases bb with
      | true =>
        go_wp2_with (first | (go_at_call 89; refine hcl.mono ?_; rintro en w2 ⟨rfl, b2⟩))
        go_ret
        refine ⟨⟨k, rfl, ?_⟩, HK.out.1.trans (b2.mono HK.out.1.size)⟩
        have : al.any (fun x => x.name == N) = true := by
          rw [List.any_eq_true]
          exact ⟨x, by rw [HX.out.1]; exact List.getElem_mem _, HX.out.2.symm⟩
        rw [this]; simp
      | false =>
        go_wp2_with (first | (go_at_call 89; refine hcl.mono ?_; rintro en w2 ⟨rfl, b2⟩))
        go_roundg (n - (k + 1))
        case measure => have := HK.out.2.1; omega
        case rel =>
          refine ⟨HK.out.1.trans (b2.mono HK.out.1.size), k + 1, by omega, rfl, by go_num, fun j hj hjk => ?_⟩
          by_cases hjk2 : j < k
          · exact HK.out.2.2 j hj hjk2
          · obtain rfl : j = k := by omega
            rw [← HX.out.1]
            intro e
            have := HX.out.2
            rw [e] at this; simp at this
    · obtain rfl : k = n := by omega
      have HK := Lib.hid (And.intro hb1 ha); clear hb1 hg ha hcell hc h
      have HN := Lib.hid hn; clear hn
      go_wp2_with fail
      go_ret
      refine ⟨⟨-1, rfl, ?_⟩, HK.out.1⟩
      have : al.any (fun x => x.name == N) = false := by
        rw [List.any_eq_false]
        intro x hx
        obtain ⟨j, hj, rfl⟩ := List.getElem_of_mem hx
        simpa using HK.out.2 j hj (by rw [HN.out] at hj; exact hj)
      rw [this]; rfl

set_option maxRecDepth 1000000 in
theorem idxf_nil (w : World) (f : Value) :
    Calls Tryz.prog 68 #[.slice none 0 0, f] w fun en w' => en = .returned (.int .i64 (-1)) ∧ Below w.heap.size w w' := by
  go_enter Tryz.func68, Tryz.ntmps68
  go_wp2_with fail
  go_loopg [8] 0 (fun g i wr => wr = w ∧ i = .int .i64 0)
  case atStart => exact ⟨rfl, rfl⟩
  case round =>
    obtain ⟨rfl, rfl⟩ := hrel
    go_wp2_with fail
    go_ret
    exact ⟨rfl, Below.refl _ _⟩

/-- 'ContainsFunc' over a row of attributes of the call's own. -/
theorem own_attrs {w : World} {B : Nat} {av : Value} {al : List PAttr} (h : w.ownsRow B 58 2 av al.length (attrCells al)) :
    (al = [] ∧ av = .slice none 0 0) ∨ ∃ g cap, av = .slice (some ⟨g, 0, none⟩) al.length cap ∧ B ≤ g ∧ g < w.heap.size ∧ (∃ cur, w.heap[g]? = some (.cells cur 58 (0, 0)) ∧ ∀ j u, (attrCells al)[j]? = some u → cur[0 + j]? = some u) := by
  rcases h.2 with ⟨hv, h0⟩ | ⟨g, cap, cur, hv, hb, hg, _, _, _, ht⟩
  · exact .inl ⟨List.eq_nil_of_length_eq_zero h0, hv⟩
  · refine .inr ⟨g, cap, hv, hb, (Array.getElem?_eq_some_iff.1 hg).1, cur, hg, fun j u hj => ?_⟩
    rw [← ht, List.getElem?_take] at hj
    split at hj
    · rw [Nat.zero_add, ← Array.getElem?_toList]; exact hj
    · simp at hj
theorem attrCells_at : ∀ (al : List PAttr) (j : Nat) (hj : j < al.length), (attrCells al)[j * 2]? = some (.string ⟨(al[j]'hj).name.toArray⟩) ∧ (attrCells al)[j * 2 + 1]? = some (.string ⟨(al[j]'hj).value.toArray⟩)
  | [], _, h => by simp at h
  | a :: r, 0, _ => ⟨rfl, rfl⟩
  | a :: r, j + 1, h => by
    have := attrCells_at r j (by simpa using h)
    have e : attrCells (a :: r) = .string ⟨a.name.toArray⟩ :: .string ⟨a.value.toArray⟩ :: attrCells r := rfl
    rw [e, show (j + 1) * 2 = j * 2 + 2 from by omega, show j * 2 + 2 + 1 = j * 2 + 1 + 2 from by omega]
    exact this

set_option maxRecDepth 1000000 in
set_option maxHeartbeats 1000000 in
theorem cont_c (w : World) (A B : Nat) (av : Value) (al : List PAttr) (N : Bytes) (h : w.cell? ⟨A, 0, none⟩ = some (.string ⟨N.toArray⟩)) (hb : al.length ≤ 65537) (ho : w.ownsRow B 58 2 av al.length (attrCells al)) :
    Calls Tryz.prog 80 #[av, .func (.func 89) #[] #[.pointer (some ⟨A, 0, none⟩)]] w fun en w' => en = .returned (.bool (al.any (fun x => x.name == N))) ∧ Below w.heap.size w w' := by
  rcases own_attrs ho with ⟨rfl, rfl⟩ | ⟨g, cap, rfl, _, hgl, cur, hg, hcur⟩
  · clear ho
    go_enter Tryz.func80, Tryz.ntmps80
    go_wp2_with (first | (go_at_call 68; refine (idxf_nil w _).mono ?_; rintro en w2 ⟨rfl, b2⟩))
    go_ret
    exact ⟨rfl, b2⟩
  · have hi := idxf_c w A g al.length cap al N h rfl hb (fun j hj => by
      have hcc := attrCells_at al j hj
      have h1 := hcur _ _ hcc.1
      have h2 := hcur _ _ hcc.2
      rw [Nat.zero_add] at h1 h2
      unfold World.cell?; rw [hg]
      exact ⟨by simpa using h1, by simpa using h2⟩)
    obtain ⟨bb, hbb⟩ : ∃ bb, bb = al.any (fun x => x.name == N) := ⟨_, rfl⟩
    rw [← hbb] at hi ⊢
    clear hbb hcur
    go_enter Tryz.func80, Tryz.ntmps80
    go_wp2_with (first | (go_at_call 68; refine hi.mono ?_; rintro en w2 ⟨⟨i, rfl, hib⟩, b2⟩))
    go_ret
    exact ⟨rfl, b2⟩
end Go.Proofs.YtcicibeggkmlcaaGreatDoor

namespace Go.Proofs.YtcicibeggkmlcaaGreatDoor
open Go.RowKit Go.Sof

/-- what tag has at hand: the reader, the mark's own block, the attributes' own row. -/
structure TG (w0 w : World) (R : Nat) (s : ByteArray) (q : Nat) (out : Value) (fr e : Int) (kd : Int) (frm : Nat) (N : Bytes) (av : Value) (al : List PAttr) : Prop where
  g : w0.grownBy w (some R)
  rd : Rd w R s q out fr e
  m : w.heap[w0.heap.size]? = some (.cells #[.int .i64 kd, .int .i64 frm, .string ⟨N.toArray⟩, av, .string ⟨#[]⟩] 41 (0, 0))
  own : w.ownsRow (w0.heap.size + 1) 58 2 av al.length (attrCells al)
  lt : R < w0.heap.size

section
variable {w0 w w' : World} {R : Nat} {s : ByteArray} {q q' : Nat} {out : Value} {fr e fr' e' : Int} {kd : Int} {frm : Nat} {N : Bytes} {av : Value} {al : List PAttr}
theorem TG.grown (h : TG w0 w R s q out fr e kd frm N av al) (hr : Rd w' R s q' out fr' e') (hg : w.grownBy w' (some R)) : TG w0 w' R s q' out fr' e' kd frm N av al :=
  ⟨h.g.trans hg, hr, (hg.block _ (Array.getElem?_eq_some_iff.1 h.m).1 (fun e => by have := h.lt; cases e; omega)).trans h.m,
   ownsRow_keep h.own (fun k hk => by
    obtain ⟨hb, cur, hc⟩ := own_block h.own k hk
    exact hg.block k (Array.getElem?_eq_some_iff.1 hc).1 (fun e => by have := h.lt; cases e; omega)), h.lt⟩
theorem TG.below (h : TG w0 w R s q out fr e kd frm N av al) (hb : Below w.heap.size w w') : TG w0 w' R s q out fr e kd frm N av al := h.grown (h.rd.below hb) (grown_below hb _)
theorem TG.drewN (h : TG w0 w R s q out fr e kd frm N av al) (n : Nat) : TG w0 (w.drewN n) R s q out fr e kd frm N av al := h.below ⟨rfl, rfl, rfl, Nat.le_refl _, fun _ _ => rfl⟩
theorem TG.sz (h : TG w0 w R s q out fr e kd frm N av al) : w0.heap.size < w.heap.size := (Array.getElem?_eq_some_iff.1 h.m).1
theorem TG.m0 (h : TG w0 w R s q out fr e kd frm N av al) : w.cell? ⟨w0.heap.size, 0, none⟩ = some (.int .i64 kd) := by have := h.m; unfold World.cell?; rw [this]; rfl
theorem TG.m1 (h : TG w0 w R s q out fr e kd frm N av al) : w.cell? ⟨w0.heap.size, 1, none⟩ = some (.int .i64 frm) := by have := h.m; unfold World.cell?; rw [this]; rfl
theorem TG.m2 (h : TG w0 w R s q out fr e kd frm N av al) : w.cell? ⟨w0.heap.size, 2, none⟩ = some (.string ⟨N.toArray⟩) := by have := h.m; unfold World.cell?; rw [this]; rfl
theorem TG.m3 (h : TG w0 w R s q out fr e kd frm N av al) : w.cell? ⟨w0.heap.size, 3, none⟩ = some av := by have := h.m; unfold World.cell?; rw [this]; rfl
theorem TG.m4 (h : TG w0 w R s q out fr e kd frm N av al) : w.cell? ⟨w0.heap.size, 4, none⟩ = some (.string ⟨#[]⟩) := by have := h.m; unfold World.cell?; rw [this]; rfl
theorem TG.fz (h : TG w0 w R s q out fr e kd frm N av al) (i : Nat) : w.frozen? ⟨w0.heap.size, i, none⟩ = false := by have := h.m; unfold World.frozen?; rw [this]; simp
theorem TG.ne (h : TG w0 w R s q out fr e kd frm N av al) : w0.heap.size ≠ R := by have := h.lt; omega
theorem TG.start (h : Rd w R s q out 0 0) (x : Int) (hx : x = q') (kd : Int) : TG w ((w.setCell ⟨R, 1, none⟩ (.int .i64 x)).alloc (.cells #[.int .i64 kd, .int .i64 frm, .string ⟨#[]⟩, .slice none 0 0, .string ⟨#[]⟩] 41)) R s q' out 0 0 kd frm [] (.slice none 0 0) [] := by
  have hs : (w.setCell ⟨R, 1, none⟩ (.int .i64 x)).heap.size = w.heap.size := by simp [World.setCell]
  refine ⟨(grown_set w R 1 _).trans (grown_alloc _ _ _), (h.set1 q' x hx).alloc _, ?_, World.ownsRow_nil _ _ _ _, h.lt⟩
  have := heap_alloc_new (w.setCell ⟨R, 1, none⟩ (.int .i64 x)) (.cells #[.int .i64 kd, .int .i64 frm, .string ⟨#[]⟩, .slice none 0 0, .string ⟨#[]⟩] 41)
  rw [hs] at this; exact this
theorem TG.setM (h : TG w0 w R s q out fr e kd frm N av al) (i : Nat) (v : Value) : w0.grownBy (w.setCell ⟨w0.heap.size, i, none⟩ v) (some R) ∧ Rd (w.setCell ⟨w0.heap.size, i, none⟩ v) R s q out fr e ∧ (w.setCell ⟨w0.heap.size, i, none⟩ v).ownsRow (w0.heap.size + 1) 58 2 av al.length (attrCells al) :=
  ⟨grown_setN h.g _ _ (Nat.le_refl _) _, h.rd.setN h.ne _, ownsRow_setCell_below h.own (by show w0.heap.size < _; omega) _⟩
theorem TG.kind (h : TG w0 w R s q out fr e kd frm N av al) (k : Int) : TG w0 (w.setCell ⟨w0.heap.size, 0, none⟩ (.int .i64 k)) R s q out fr e k frm N av al :=
  let ⟨a, b, c⟩ := h.setM 0 (.int .i64 k); ⟨a, b, heap_setCell_same w _ 0 _ _ _ h.m, c, h.lt⟩
theorem TG.name (h : TG w0 w R s q out fr e kd frm N av al) (K : Bytes) : TG w0 (w.setCell ⟨w0.heap.size, 2, none⟩ (.string ⟨K.toArray⟩)) R s q out fr e kd frm K av al :=
  let ⟨a, b, c⟩ := h.setM 2 (.string ⟨K.toArray⟩); ⟨a, b, heap_setCell_same w _ 2 _ _ _ h.m, c, h.lt⟩
/-- an attribute more. -/
theorem TG.attr {wA w4 : World} {av' : Value} {a : PAttr} (h : TG w0 w R s q out fr e kd frm N av al) (hA : Below w.heap.size w wA) (hg : wA.grownBy w4 av.ownBlock) (hown : w4.ownsRow (w0.heap.size + 1) 58 2 av' (al.length + 1) (attrCells al ++ attrCell a)) :
    TG w0 (w4.setCell ⟨w0.heap.size, 3, none⟩ av') R s q out fr e kd frm N av' (al ++ [a]) ∧ Rd w4 R s q out fr e ∧ w4.cell? ⟨w0.heap.size, 3, none⟩ = some av ∧ w4.frozen? ⟨w0.heap.size, 3, none⟩ = false := by
  have hB := h.below hA
  have hno : ∀ k, k ≤ w0.heap.size → some k ≠ av.ownBlock := fun k hk e => by have := (own_block h.own k e.symm).1; omega
  have hm := (hg.block _ (Array.getElem?_eq_some_iff.1 hB.m).1 (hno _ (Nat.le_refl _))).trans hB.m
  have hr := hB.rd.grown hg (hno R (Nat.le_of_lt h.lt))
  have hg4 : w0.grownBy w4 (some R) := ⟨hg.os.trans hB.g.os, hg.tape.trans hB.g.tape, hg.output.trans hB.g.output, Nat.le_trans hB.g.size hg.size, fun k hk hn => (hg.block k (by have := hB.sz; omega) (hno k (Nat.le_of_lt hk))).trans (hB.g.block k hk hn)⟩
  refine ⟨⟨grown_setN hg4 _ _ (Nat.le_refl _) _, hr.setN h.ne _, heap_setCell_same w4 _ 3 _ _ _ hm, ?_, h.lt⟩, hr, ?_, ?_⟩
  · rw [List.length_append, show attrCells (al ++ [a]) = attrCells al ++ attrCell a from by simp [attrCells]]
    exact ownsRow_setCell_below hown (by show w0.heap.size < _; omega) _
  · unfold World.cell?; rw [hm]; rfl
  · unfold World.frozen?; rw [hm]; simp
theorem TG.attrs (h : TG w0 w R s q out fr e kd frm N av al) : AttrsO w av al := by
  have hcap : ∃ p c, av = .slice p al.length c ∧ al.length ≤ c := by
    rcases h.own.2 with ⟨hv, h0⟩ | ⟨g, cap, cur, hv, _, _, hcap, _⟩
    · exact ⟨none, 0, by rw [h0]; exact hv, by omega⟩
    · exact ⟨_, cap, hv, hcap⟩
  rcases own_attrs h.own with hn | ⟨g, cap, hv, _, _, cur, hc, hcur⟩
  · exact .inl hn
  · refine .inr ⟨g, 0, cap, cur, _, hv, hc, hcur, ?_⟩
    obtain ⟨p', c', hv', hc'⟩ := hcap
    rw [hv] at hv'
    simp only [Value.slice.injEq] at hv'
    obtain ⟨_, _, rfl⟩ := hv'
    exact hc'
theorem TG.rt {p : Nat} {xs : List Value} {ms : List PMark} (h : TG w0 w R s q out 0 0 kd frm N av al) (h0 : RT w0 R s p out xs ms) : RT w R s q out xs ms := h0.grown h.g h.rd
theorem TG.wok (h : TG w0 w R s q out fr e kd frm N av al) (hw : WOK w0) (hR : Globs R) : WOK w := hw.gr hR h.lt h.g
end
theorem A_infoA : (Tryz.prog.info? 58).map (fun i => (i.zero.map (fun z => z.cells.size), i.size, decide (i.bytes ≤ 64))) = some (some 2, 2, true) := by kernel_rfl
theorem info_attr : ∃ i z bytes, Tryz.prog.info? 58 = some i ∧ i.zero = some z ∧ i.size = 2 ∧ i.bytes = bytes ∧ z.cells.size = 2 ∧ bytes ≤ 64 := by
  have h := A_infoA
  obtain ⟨i, hi, hz⟩ := Option.map_eq_some_iff.1 h
  simp only [Prod.mk.injEq, Option.map_eq_some_iff, decide_eq_true_eq] at hz
  obtain ⟨⟨z, hz0, hz1⟩, hz2, hz3⟩ := hz
  exact ⟨i, z, i.bytes, hi, hz0, hz2, rfl, hz1, hz3⟩

/-- A REGION THAT DRAWS: its first two operations stand ahead of all others; what follows only reads. -/
theorem wp_region_two {P : Program} {id : Nat} {Q : Exit → Act → World → Prop} {a : Act} {w : World} {o0 o1 : Oper} {l : List Oper} (hm : P.follows .mixedOrders = true)
    (hr0 : Region.ready .any (o0 :: o1 :: l).toArray (Array.replicate (o0 :: o1 :: l).toArray.size false) = [0])
    (hr1 : Region.ready .any (o0 :: o1 :: l).toArray ((Array.replicate (o0 :: o1 :: l).toArray.size false).setIfInBounds 0 true) = [1])
    (hns : Region.noSelect (o0 :: o1 :: l).toArray = true)
    (hB : Region.lexFrom .any (o0 :: o1 :: l).toArray l.length 2 (((Array.replicate (o0 :: o1 :: l).toArray.size false).setIfInBounds 0 true).setIfInBounds 1 true) = true)
    (hg0 : o0.guard = none) (hg1 : o1.guard = none)
    (h : o0.wp P a w.drew (fun a1 w1 => o1.wp P a1 w1 (fun a2 w2 => wpQuiet P (o0 :: o1 :: l).toArray (fun w' => ∃ n, w' = w2.drewN n) (fun a' => ∀ w', (∃ n, w' = w2.drewN n) → Q .normal a' w') l a2) Q) Q) :
    (Code.region id (o0 :: o1 :: l).toArray true).wp P Q a w := by
  refine wp_region_any hm ?_
  have hsz : (o0 :: o1 :: l).toArray.size = l.length + 1 + 1 := by simp
  generalize hL : Array.replicate (o0 :: o1 :: l).toArray.size false = L at *
  rw [hsz]
  refine ⟨fun e => (by rw [hr0] at e; cases e), fun i hi => ?_⟩
  rw [hr0, List.mem_singleton] at hi
  subst hi
  unfold wpOp
  simp only [List.getElem?_toArray, List.getElem?_cons_zero]
  rw [if_pos (by simp [Region.wanted, hg0])]
  refine .inl (Oper.wp_mono (fun a1 w1 h1 => ?_) h)
  refine ⟨fun e => (by rw [hr1] at e; cases e), fun i hi => ?_⟩
  rw [hr1, List.mem_singleton] at hi
  subst hi
  unfold wpOp
  simp only [List.getElem?_toArray, List.getElem?_cons_succ, List.getElem?_cons_zero]
  rw [if_pos (by simp [Region.wanted, hg1])]
  refine .inl (Oper.wp_mono (fun a2 w2 h2 => ?_) h1)
  exact wpAny_of_quiet (C := fun w' => ∃ n, w' = w2.drewN n) (Q := fun a' => ∀ w', (∃ n, w' = w2.drewN n) → Q .normal a' w') (fun a' w' hw' hq => hq w' hw') _ _ _ _ ⟨0, rfl⟩
    (wpAnyQ_lex hns l 2 _ _ (fun j => by simp [Nat.add_comm 2 j]) hB h2)
end Go.Proofs.YtcicibeggkmlcaaGreatDoor
