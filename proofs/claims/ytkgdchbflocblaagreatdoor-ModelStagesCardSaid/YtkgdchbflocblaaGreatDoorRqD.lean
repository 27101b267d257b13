/- The walk of buildOnce, NewReplacer, Replacer.Replace and Escape. Conditions: the text has at most 2^31 bytes. -/
import Derived.Test.YtkgdchbflocblaaGreatDoorRqA
import Derived.Test.YtkgdchbflocblaaGreatDoorRqC
import Derived.Conc.WgWords
namespace Go.Proofs.YtkgdchbflocblaaGreatDoor
open Go.RowKit Go.Sof

/-- a cell that is no part of the table may be written. -/
theorem RepAt.other {w : World} {tb : Nat} (h : RepAt w tb) {p : Addr} {v0 v : Value} (hp : w.cell? p = some v0) (h1 : ∀ x, v0 ≠ .int .u8 x) (h2 : ∀ x, v0 ≠ .string x) (hb : w.cell? ⟨p.block, 256, none⟩ = none) : RepAt (w.setCell p v) tb := by
  have htb : tb ≠ p.block := by
    rintro rfl
    obtain ⟨tr, cp, hk, _⟩ := h.keys
    rw [hb] at hk; cases hk
  have key : ∀ (a : Addr) (u : Value), w.cell? a = some u → a ≠ p → (w.setCell p v).cell? a = some u := fun a u ha hne => (World.cell?_setCell_other w p a v hne.symm).trans ha
  have n1 : ∀ j, (⟨tb, j, none⟩ : Addr) ≠ p := by rintro j rfl; exact htb rfl
  refine ⟨fun c hc => key _ _ (h.plain c hc) (n1 _), fun c hc => ?_, ?_⟩
  · obtain ⟨g, cp, e1, e2⟩ := h.special c hc
    refine ⟨g, cp, key _ _ e1 (n1 _), fun j hj => key _ _ (e2 j hj) ?_⟩
    rintro rfl
    rw [e2 j hj] at hp
    exact h1 _ (Option.some.inj hp).symm
  · obtain ⟨tr, cp, e1, e2⟩ := h.keys
    refine ⟨tr, cp, key _ _ e1 (n1 _), fun j hj => key _ _ (e2 j hj) ?_⟩
    rintro rfl
    rw [e2 j hj] at hp
    exact h2 _ (Option.some.inj hp).symm

/-- buildOnce: the table is laid, the pairs are let go. -/
theorem buildOnce_c (b rb cp : Nat) (iv : Value) (w : World) (h3 : w.cell? ⟨b, 3, none⟩ = some iv) (f3 : w.frozen? ⟨b, 3, none⟩ = false) (f4 : w.frozen? ⟨b, 4, none⟩ = false)
    (h4 : w.cell? ⟨b, 4, none⟩ = some (.slice (some ⟨rb, 0, none⟩) 16 cp)) (hon : ∀ j, j < 16 → w.cell? ⟨rb, j, none⟩ = some (.string ⟨(onAt j).toArray⟩)) :
    Calls Tryz.prog 228 #[.pointer (some ⟨b, 0, none⟩)] w fun e w' => e = .returned (.tuple #[]) ∧
      ∃ tb w1, Below w.heap.size w w1 ∧ RepAt w1 tb ∧ w' = (w1.setCell ⟨b, 3, none⟩ (.iface 411 (.pointer (some ⟨tb, 0, none⟩)))).setCell ⟨b, 4, none⟩ (.slice none 0 0) := by
  have HB := Lib.hid (build_c b rb cp w h4 hon); clear hon
  have hlt : b < w.heap.size := World.block_lt_of_cell? w _ h4
  go_enter Tryz.func228, Tryz.ntmps228
  go_wp2_with (first | (go_at_call 277; refine HB.out.mono ?_; rintro e w1 ⟨tb, rfl, hb1, hR⟩; have k3 := (hb1.cell (p := ⟨b, 3, none⟩) hlt).trans h3; have z3 := (hb1.frozen (p := ⟨b, 3, none⟩) hlt).trans f3; have k4 := (hb1.cell (p := ⟨b, 4, none⟩) hlt).trans h4; have z4 := (hb1.frozen (p := ⟨b, 4, none⟩) hlt).trans f4) | fail)
  go_end0
  exact ⟨rfl, tb, w1, hb1, hR, rfl⟩

set_option maxRecDepth 1000000 in
/-- NewReplacer: a struct that is not yet built, the pairs copied. -/
theorem newRep_c (rb cp : Nat) (w : World) (hon : ∀ j, j < 16 → w.cell? ⟨rb, j, none⟩ = some (.string ⟨(onAt j).toArray⟩)) :
    Calls Tryz.prog 179 #[.slice (some ⟨rb, 0, none⟩) 16 cp] w fun e w' => ∃ b rb' cp' iv, e = .returned (.pointer (some ⟨b, 0, none⟩)) ∧ Below w.heap.size w w' ∧ w.heap.size ≤ b ∧
      w'.heap[b]? = some (.cells #[.int .u32 0, .int .i32 0, .int .u32 0, iv, .slice (some ⟨rb', 0, none⟩) 16 cp'] 318 (0, 0)) ∧ (∀ k x, iv ≠ .int k x) ∧ (∀ x, iv ≠ .string x) ∧
      ∀ j, j < 16 → w'.cell? ⟨rb', j, none⟩ = some (.string ⟨(onAt j).toArray⟩) := by
  have HO := Lib.hid hon; clear hon
  obtain ⟨i0, hi, hz0, hzz, hz2⟩ := info_parts A_infoS
  go_enter Tryz.func179, Tryz.ntmps179
  go_wp2_with (first | (at_builtin; refine wpList_append_own _ rfl (.const (.slice none 0 0)) (.tmp 8) 57 rfl w.heap.size 9 i0 (.string ⟨#[]⟩) 1 16 Tryz.underlying57 hi hz0 hzz hz2 rfl (by decide) _ 0 [] rfl ⟨rfl, Or.inl ⟨rfl, rfl⟩⟩ ⟨rb, 0, none⟩ 16 cp ((List.range 16).map fun j => .string ⟨(onAt j).toArray⟩) rfl rfl ?c1 ?c2 ?c3 ?c4 ?c5 ?_) | fail)
  case c1 =>
    intro j u hj
    have hj' := (List.getElem?_eq_some_iff.1 hj).1
    simp only [List.length_map, List.length_range] at hj'
    rw [List.getElem?_map, List.getElem?_range hj'] at hj
    rw [addr_add, HO.out j hj', ← Option.some.inj hj]
  case c2 =>
    intro u hu
    obtain ⟨j, _, rfl⟩ := List.mem_map.1 hu
    rfl
  case c3 => unfold maxLen; omega
  case c4 => omega
  case c5 => exact Nat.le_refl _
  intro v' w1 hown hgrow hnil
  have hvne : v' ≠ .slice none 0 0 := fun e => by simpa using hnil e
  obtain ⟨gv, cv, row, rfl, hrow⟩ := ownsRow_form hown hvne
  have hb1 : Below w.heap.size w w1 := (Below.refl w.heap.size w).grown hgrow (Nat.le_refl _) (fun k hk => by simp [Value.ownBlock] at hk)
  have hcells := fun j => hown.cells (g := gv) rfl j
  have HX := Lib.hid (And.intro hb1 (And.intro hcells hrow))
  clear hb1 hcells hrow hown hgrow hnil hvne
  go_wp2_with fail
  go_ret
  obtain ⟨hb1, hcells, hrow⟩ := HX.out
  have hg : gv < w1.heap.size := (Array.getElem?_eq_some_iff.1 hrow).1
  refine ⟨w1.heap.size, gv, cv, .nilIface, rfl, hb1.alloc hb1.size _, hb1.size, heap_alloc_new _ _, fun k x => by simp, fun x => by simp, fun j hj => ?_⟩
  have hc := hcells j (.string ⟨(onAt j).toArray⟩) (by match j, hj with | 0, _ => rfl | 1, _ => rfl | 2, _ => rfl | 3, _ => rfl | 4, _ => rfl | 5, _ => rfl | 6, _ => rfl | 7, _ => rfl | 8, _ => rfl | 9, _ => rfl | 10, _ => rfl | 11, _ => rfl | 12, _ => rfl | 13, _ => rfl | 14, _ => rfl | 15, _ => rfl | (n+16), h => exact absurd h (by omega))
  rw [addr_add] at hc
  unfold World.cell? at hc ⊢
  simp only [Lib.alloc_old _ _ _ hg]
  exact hc

theorem A_method (k n : Nat) (w : World) : (method (k + 3) 411 (.pointer (some ⟨n, 0, none⟩)) "Replace").run Tryz.prog w = .ok (389, .pointer (some ⟨n, 0, none⟩)) w := by kernel_rfl

set_option maxRecDepth 1000000 in
/-- Replace over a fresh replacer of the escape pairs: the escaped text. -/
theorem replace_c (s : ByteArray) (b rb cp B : Nat) (iv : Value) (w : World) (hs : s.size ≤ 2147483648) (hB : B ≤ b)
    (hb : w.heap[b]? = some (.cells #[.int .u32 0, .int .i32 0, .int .u32 0, iv, .slice (some ⟨rb, 0, none⟩) 16 cp] 318 (0, 0)))
    (hi1 : ∀ k x, iv ≠ .int k x) (hi2 : ∀ x, iv ≠ .string x)
    (hon : ∀ j, j < 16 → w.cell? ⟨rb, j, none⟩ = some (.string ⟨(onAt j).toArray⟩)) :
    Calls Tryz.prog 180 #[.pointer (some ⟨b, 0, none⟩), .string s] w fun e w' => e = .returned (.string ⟨(escL s.data.toList).toArray⟩) ∧ Below B w w' := by
  have hblt : b < w.heap.size := (Array.getElem?_eq_some_iff.1 hb).1
  have cell : ∀ j, w.cell? ⟨b, j, none⟩ = #[Value.int .u32 0, .int .i32 0, .int .u32 0, iv, .slice (some ⟨rb, 0, none⟩) 16 cp][j]? := by
    intro j; unfold World.cell?; simp only [hb]; rfl
  have froz : ∀ j, w.frozen? ⟨b, j, none⟩ = false := by
    intro j; unfold World.frozen?; simp only [hb]; simp
  have hrb : rb ≠ b := by
    rintro rfl
    have := hon 0 (by omega)
    rw [cell 0] at this
    simp at this
  have b1 : ∀ j, j ≠ 1 → (w.setCell ⟨b, 1, none⟩ (.int .i32 1)).cell? ⟨b, j, none⟩ = w.cell? ⟨b, j, none⟩ := fun j hj => World.cell?_setCell_other w ⟨b, 1, none⟩ ⟨b, j, none⟩ _ (by simp <;> omega)
  have HD := once_do b (.pointer (some ⟨b, 0, none⟩)) (fun w' => ∃ tb w1, Below w.heap.size (w.setCell ⟨b, 1, none⟩ (.int .i32 1)) w1 ∧ RepAt w1 tb ∧ w' = (w1.setCell ⟨b, 3, none⟩ (.iface 411 (.pointer (some ⟨tb, 0, none⟩)))).setCell ⟨b, 4, none⟩ (.slice none 0 0)) w (cell 0) (cell 1) (froz 1) (by
    rintro w1 rfl
    refine (buildOnce_c b rb cp iv _ ((b1 3 (by omega)).trans (cell 3)) (by simp [froz]) (by simp [froz]) ((b1 4 (by omega)).trans (cell 4)) ?_).mono ?_
    · intro j hj
      exact (World.cell?_setCell_other w ⟨b, 1, none⟩ ⟨rb, j, none⟩ _ (by simp <;> omega)).trans (hon j hj)
    · rintro e w' ⟨rfl, tb, w1, h1, h2, h3⟩
      rw [World.size_setCell] at h1
      exact ⟨rfl, tb, w1, h1, h2, h3⟩) (by
    rintro w' ⟨tb, w1, h1, h2, rfl⟩
    have hw : ∀ j, j ≠ 3 → j ≠ 4 → j ≠ 1 → ((w1.setCell ⟨b, 3, none⟩ (.iface 411 (.pointer (some ⟨tb, 0, none⟩)))).setCell ⟨b, 4, none⟩ (.slice none 0 0)).cell? ⟨b, j, none⟩ = w.cell? ⟨b, j, none⟩ := by
      intro j h3 h4 h1'
      rw [World.cell?_setCell_other _ _ _ _ (by simp <;> omega), World.cell?_setCell_other _ _ _ _ (by simp <;> omega), h1.cell (p := ⟨b, j, none⟩) hblt, b1 j h1']
    have hfr : ∀ j, ((w1.setCell ⟨b, 3, none⟩ (.iface 411 (.pointer (some ⟨tb, 0, none⟩)))).setCell ⟨b, 4, none⟩ (.slice none 0 0)).frozen? ⟨b, j, none⟩ = false := by
      intro j
      simp only [World.frozen?_setCell]
      rw [h1.frozen (p := ⟨b, j, none⟩) hblt, World.frozen?_setCell]
      exact froz j
    refine ⟨(hw 0 (by omega) (by omega) (by omega)).trans (cell 0), hfr 0, ?_, hfr 1⟩
    rw [World.cell?_setCell_other _ _ _ _ (by simp), World.cell?_setCell_other _ _ _ _ (by simp), h1.cell (p := ⟨b, 1, none⟩) hblt, World.cell?_setCell_same w _ _ (cell 1)])
  have HK : Calls Tryz.prog 227 #[.pointer (some ⟨b, 0, none⟩), .func (.func 228) #[.pointer (some ⟨b, 0, none⟩)] #[]] w fun e w' => e = .returned (.tuple #[]) ∧
      ∃ tb, Below B w w' ∧ RepAt w' tb ∧ w'.cell? ⟨b, 3, none⟩ = some (.iface 411 (.pointer (some ⟨tb, 0, none⟩))) := by
    refine HD.mono ?_
    rintro e w2 ⟨rfl, w3, ⟨tb, w1, h1, hR, rfl⟩, rfl⟩
    have hBw : B ≤ w.heap.size := by omega
    have c3 : w1.cell? ⟨b, 3, none⟩ = some iv := (h1.cell (p := ⟨b, 3, none⟩) hblt).trans ((b1 3 (by omega)).trans (cell 3))
    have c4 : w1.cell? ⟨b, 4, none⟩ = some (.slice (some ⟨rb, 0, none⟩) 16 cp) := (h1.cell (p := ⟨b, 4, none⟩) hblt).trans ((b1 4 (by omega)).trans (cell 4))
    have c0 : w1.cell? ⟨b, 0, none⟩ = some (.int .u32 0) := (h1.cell (p := ⟨b, 0, none⟩) hblt).trans ((b1 0 (by omega)).trans (cell 0))
    have c1 : w1.cell? ⟨b, 1, none⟩ = some (.int .i32 1) := (h1.cell (p := ⟨b, 1, none⟩) hblt).trans (World.cell?_setCell_same w _ _ (cell 1))
    have cb : w1.cell? ⟨b, 256, none⟩ = none := (h1.cell (p := ⟨b, 256, none⟩) hblt).trans ((b1 256 (by omega)).trans (cell 256))
    have R1 := hR.other (v := .iface 411 (.pointer (some ⟨tb, 0, none⟩))) c3 (fun x => hi1 _ x) hi2 cb
    have k4 := (World.cell?_setCell_other w1 ⟨b, 3, none⟩ ⟨b, 4, none⟩ (.iface 411 (.pointer (some ⟨tb, 0, none⟩))) (by simp)).trans c4
    have k0 := (World.cell?_setCell_other w1 ⟨b, 3, none⟩ ⟨b, 0, none⟩ (.iface 411 (.pointer (some ⟨tb, 0, none⟩))) (by simp)).trans c0
    have k1 := (World.cell?_setCell_other w1 ⟨b, 3, none⟩ ⟨b, 1, none⟩ (.iface 411 (.pointer (some ⟨tb, 0, none⟩))) (by simp)).trans c1
    have kb := (World.cell?_setCell_other w1 ⟨b, 3, none⟩ ⟨b, 256, none⟩ (.iface 411 (.pointer (some ⟨tb, 0, none⟩))) (by simp)).trans cb
    have k3 := World.cell?_setCell_same w1 ⟨b, 3, none⟩ (.iface 411 (.pointer (some ⟨tb, 0, none⟩))) c3
    have B1 : Below B w (w1.setCell ⟨b, 3, none⟩ (.iface 411 (.pointer (some ⟨tb, 0, none⟩)))) := (((Below.refl B w).setCell (p := ⟨b, 1, none⟩) hB _).trans (h1.mono hBw)).setCell (p := ⟨b, 3, none⟩) hB _
    generalize w1.setCell ⟨b, 3, none⟩ (.iface 411 (.pointer (some ⟨tb, 0, none⟩))) = wa at R1 k4 k0 k1 kb k3 B1 ⊢
    have R2 := R1.other (v := .slice none 0 0) k4 (fun x => by simp) (fun x => by simp) kb
    have m0 := (World.cell?_setCell_other wa ⟨b, 4, none⟩ ⟨b, 0, none⟩ (.slice none 0 0) (by simp)).trans k0
    have m1 := (World.cell?_setCell_other wa ⟨b, 4, none⟩ ⟨b, 1, none⟩ (.slice none 0 0) (by simp)).trans k1
    have m3 := (World.cell?_setCell_other wa ⟨b, 4, none⟩ ⟨b, 3, none⟩ (.slice none 0 0) (by simp)).trans k3
    have mb := (World.cell?_setCell_other wa ⟨b, 4, none⟩ ⟨b, 256, none⟩ (.slice none 0 0) (by simp)).trans kb
    have B2 := B1.setCell (p := ⟨b, 4, none⟩) hB (.slice none 0 0)
    generalize wa.setCell ⟨b, 4, none⟩ (.slice none 0 0) = wb at R2 m0 m1 m3 mb B2 ⊢
    have R3 : RepAt wb.drew tb := R2.below ((Below.refl _ wb).drew)
    rw [← World.cell?_drew] at m0 m1 m3 mb
    have B3 := B2.drew
    generalize wb.drew = wc at R3 m0 m1 m3 mb B3 ⊢
    have R4 := R3.other (v := .int .u32 1) m0 (fun x => by simp) (fun x => by simp) mb
    have o1 := (World.cell?_setCell_other wc ⟨b, 0, none⟩ ⟨b, 1, none⟩ (.int .u32 1) (by simp)).trans m1
    have o3 := (World.cell?_setCell_other wc ⟨b, 0, none⟩ ⟨b, 3, none⟩ (.int .u32 1) (by simp)).trans m3
    have ob := (World.cell?_setCell_other wc ⟨b, 0, none⟩ ⟨b, 256, none⟩ (.int .u32 1) (by simp)).trans mb
    have B4 := B3.setCell (p := ⟨b, 0, none⟩) hB (.int .u32 1)
    generalize wc.setCell ⟨b, 0, none⟩ (.int .u32 1) = wd at R4 o1 o3 ob B4 ⊢
    exact ⟨rfl, tb, B4.setCell (p := ⟨b, 1, none⟩) hB _, R4.other o1 (fun x => by simp) (fun x => by simp) ob, (World.cell?_setCell_other wd ⟨b, 1, none⟩ ⟨b, 3, none⟩ _ (by simp)).trans o3⟩
  clear HD cell b1 froz hon
  have HC := Lib.hid HK; clear HK
  have hm := A_method
  go_enter Tryz.func180, Tryz.ntmps180
  go_wp2_with (first | (go_at_call 227; refine HC.out.mono ?_; rintro e w2 ⟨rfl, tb, h1, hR, h3⟩) | (go_at_call 389; refine (rep_c s _ tb hR hs).mono ?_; rintro e w3 ⟨rfl, h4⟩))
  go_ret
  exact ⟨rfl, h1.trans (h4.mono (by have := h1.size; omega))⟩

def escV (r : Bytes × Int) : Value := .tuple #[.string ⟨r.1.toArray⟩, .int .i64 r.2]

def pairs : Array Value := #[.string ⟨#[38]⟩, .string ⟨#[38, 97, 109, 112, 59]⟩, .string ⟨#[60]⟩, .string ⟨#[38, 108, 116, 59]⟩, .string ⟨#[62]⟩, .string ⟨#[38, 103, 116, 59]⟩, .string ⟨#[34]⟩, .string ⟨#[38, 113, 117, 111, 116, 59]⟩,
  .string ⟨#[39]⟩, .string ⟨#[38, 97, 112, 111, 115, 59]⟩, .string ⟨#[9]⟩, .string ⟨#[38, 35, 57, 59]⟩, .string ⟨#[10]⟩, .string ⟨#[38, 35, 49, 48, 59]⟩, .string ⟨#[13]⟩, .string ⟨#[38, 35, 49, 51, 59]⟩]
theorem pairs_at (w : World) (ty : TypeId) : ∀ j, j < 16 → (w.alloc (.cells pairs ty)).cell? ⟨w.heap.size, j, none⟩ = some (.string ⟨(onAt j).toArray⟩) := by
  intro j hj
  unfold World.cell?
  simp only [heap_alloc_new]
  match j, hj with | 0, _ => rfl | 1, _ => rfl | 2, _ => rfl | 3, _ => rfl | 4, _ => rfl | 5, _ => rfl | 6, _ => rfl | 7, _ => rfl | 8, _ => rfl | 9, _ => rfl | 10, _ => rfl | 11, _ => rfl | 12, _ => rfl | 13, _ => rfl | 14, _ => rfl | 15, _ => rfl | (n+16), h => exact absurd h (by omega)

set_option maxRecDepth 1000000 in
/-- Escape of a text that chars.Good calls good, whatever that call leaves behind. -/
theorem escape_g (s : ByteArray) (w : World) (R : World → Prop) (hs : s.size ≤ 2147483648) (HG : Calls Tryz.prog 137 #[.string s] w fun e w1 => e = .returned (.bool true) ∧ R w1) :
    Calls Tryz.prog 186 #[.string s] w fun e w' => e = .returned (.tuple #[.string ⟨(escL s.data.toList).toArray⟩, .int .i64 0]) ∧ ∃ w1, R w1 ∧ Below w1.heap.size w1 w' := by
  have HG := Lib.hid HG
  go_enter Tryz.func186, Tryz.ntmps186
  go_wp2_with (first
    | (go_at_call 137; refine HG.out.mono ?_; rintro e w1 ⟨rfl, h1⟩; have h1 := Lib.hid h1)
    | (go_at_call 179; refine (newRep_c _ 16 _ (pairs_at _ 9)).mono ?_; rintro e w2 ⟨b, rb', cp', iv, rfl, h2, h3, h4, h5, h6, h7⟩)
    | (go_at_call 180; refine (replace_c s b rb' cp' _ iv _ hs h3 h4 h5 h6 h7).mono ?_; rintro e w3 ⟨rfl, h8⟩))
  go_ret2
  refine ⟨rfl, _, h1.out, ?_⟩
  exact ((Below.refl _ _).alloc (Nat.le_refl _) _).trans ((h2.trans h8).mono (by simp))
end Go.Proofs.YtkgdchbflocblaaGreatDoor
