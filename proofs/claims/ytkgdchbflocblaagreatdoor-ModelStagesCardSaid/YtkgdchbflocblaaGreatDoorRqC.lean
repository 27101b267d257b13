/- The walk of the replacer's build over the escape pairs. Conditions: the pairs lie in memory as Escape hands them over. -/
import Derived.Test.YtkgdchbflocblaaGreatDoorRqB
namespace Go.Proofs.YtkgdchbflocblaaGreatDoor
open Go.RowKit Go.Sof

/-- the pairs, in Escape's order. -/
def onAt (j : Nat) : Bytes := if j % 2 = 0 then [keyAt (7 - j / 2)] else escB (keyAt (7 - j / 2))
theorem on_even (k : Nat) : onAt (2 * k) = [keyAt (7 - k)] := by unfold onAt; rw [if_pos (by omega), show 2 * k / 2 = k from by omega]
theorem on_odd (k : Nat) : onAt (2 * k + 1) = escB (keyAt (7 - k)) := by unfold onAt; rw [if_neg (by omega), show (2 * k + 1) / 2 = k from by omega]

theorem A_infoS : (Tryz.prog.info? 9).map (fun i => (i.zero, i.size, i.bytes)) = some (some (.string ⟨#[]⟩), 1, 16) := by kernel_rfl
/-- 'make([]string, 0, 8)'. -/
theorem make_eight (w : World) : ∃ w1, (Instr.makeSlice 57 (.int .i64 0) (.int .i64 8)).run Tryz.prog w = .ok (.slice (some ⟨w.heap.size, 0, none⟩) 0 8) w1 ∧
    w1.ownsRow w.heap.size 9 1 (.slice (some ⟨w.heap.size, 0, none⟩) 0 8) 0 [] ∧ Below w.heap.size w w1 ∧ w1.heap.size = w.heap.size + 1 := by
  obtain ⟨i0, hi, hz0, hz1, hz2⟩ := info_parts A_infoS
  have hr := run_make (P := Tryz.prog) w 57 9 i0 (.string ⟨#[]⟩) Tryz.underlying57 hi hz0 .i64 .i64 0 8 (by omega) (by omega) (by rw [hz2]; omega) (by omega)
  refine ⟨_, hr, World.ownsRow_made w _ 8 (Nat.le_refl _) (by unfold maxLen; omega) ?_, (Below.refl _ w).alloc (Nat.le_refl _) _, by simp⟩
  rw [size_madeCells, hz1]; rfl

theorem zero_rep : Tryz.zeroCells410.toList = List.replicate 257 (.slice none 0 0) := by kernel_rfl

/-- the new table, its list of keys stored. -/
theorem store_rep (w1 : World) (n : Nat) (hn : n = w1.heap.size) (v : Value) (hv : v.oneCell' = true) : ∃ cur w2, (storeCells ⟨n, 0, none⟩ (Tryz.zeroCells410.toList.set 256 v)).run Tryz.prog (w1.alloc (.cells Tryz.zeroCells410 410)) = .ok () w2 ∧
    w2.heap[n]? = some (.cells cur 410 (0, 0)) ∧ cur.size = 257 ∧ (∀ c, c < 256 → cur[c]? = some (.slice none 0 0)) ∧ cur[256]? = some v ∧ Below w1.heap.size w1 w2 ∧ w2.heap.size = n + 1 := by
  subst hn
  have hl : (Tryz.zeroCells410.toList.set 256 v).length = 257 := by rw [List.length_set, zero_rep, List.length_replicate]
  have hz : Tryz.zeroCells410.size = 257 := by rw [← Array.length_toList, zero_rep, List.length_replicate]
  have h0 := heap_alloc_new w1 (.cells Tryz.zeroCells410 410)
  have hst := run_storeCells_at Tryz.prog w1.heap.size 0 410 (Tryz.zeroCells410.toList.set 256 v) 0 _ (w1.alloc (.cells Tryz.zeroCells410 410)) h0 (by rw [hl, hz]; omega) (by
    intro u hu
    rcases List.mem_or_eq_of_mem_set hu with h | h
    · rw [zero_rep] at h
      rw [List.eq_of_mem_replicate h]; rfl
    · rw [h]; exact hv)
  simp only [Nat.add_zero, Nat.zero_add, List.take_zero, List.nil_append] at hst
  rw [List.drop_of_length_le (by rw [hl, Array.length_toList, hz]; omega), List.append_nil] at hst
  refine ⟨_, _, hst, setRow_heap _ _ _ _ _ _ h0, by simp [hz], ?_, ?_, below_setRow ((Below.refl _ w1).alloc (Nat.le_refl _) _) (Nat.le_refl _) _, by simp [World.setRow]⟩
  · intro c hc
    rw [List.getElem?_toArray, List.getElem?_set_ne (by omega), zero_rep, List.getElem?_replicate, if_pos (by omega)]
  · rw [List.getElem?_toArray, List.getElem?_set_self (by rw [zero_rep, List.length_replicate]; omega)]

/-- the table as it is being filled: m keys are in. -/
structure RepM (B : Nat) (w : World) (tb m : Nat) : Prop where
  tab : ∃ cur v, w.heap[tb]? = some (.cells cur 410 (0, 0)) ∧ cur.size = 257 ∧
    (∀ c : UInt8, (∀ i, i < m → keyAt i ≠ c) → cur[c.toNat]? = some (.slice none 0 0)) ∧
    (∀ i, i < m → ∃ g cp row fz, cur[(keyAt i).toNat]? = some (.slice (some ⟨g, 0, none⟩) (xlen (keyAt i)) cp) ∧ w.heap[g]? = some (.cells row 5 fz) ∧ ∀ j, j < xlen (keyAt i) → row[j]? = some (.int .u8 ((escB (keyAt i)).getD j 0).toNat)) ∧
    cur[256]? = some v ∧ w.ownsRow B 9 1 v m ((List.range m).map fun i => .string ⟨#[keyAt i]⟩) ∧ v ≠ .slice none 0 0
  low : B ≤ tb

theorem key_ne : ∀ i j, i < 8 → j < 8 → i ≠ j → keyAt i ≠ keyAt j := by
  have : ∀ i j : Fin 8, i ≠ j → keyAt i.val ≠ keyAt j.val := by decide +kernel
  intro i j hi hj h
  exact this ⟨i, hi⟩ ⟨j, hj⟩ (by simpa using h)
theorem sp_key_fin : ∀ x : Fin 256, isSp (UInt8.ofNat x.val) = true → ∃ i : Fin 8, UInt8.ofNat x.val = keyAt i.val := by decide +kernel
theorem sp_key (c : UInt8) (h : isSp c = true) : ∃ i, i < 8 ∧ c = keyAt i := by
  have := sp_key_fin ⟨c.toNat, c.toNat_lt⟩; simp only [UInt8.ofNat_toNat] at this
  obtain ⟨i, hi⟩ := this h
  exact ⟨i.val, i.isLt, hi⟩
theorem key_small : ∀ i, i < 8 → (keyAt i).toNat < 256 := fun i _ => (keyAt i).toNat_lt

/-- '[]byte(s)': the row that is laid. -/
theorem conv_row (s : ByteArray) (w : World) : ∃ cap row fz w1, (convert 9 205 (.string s)).run Tryz.prog w = .ok (.slice (some ⟨w.heap.size, 0, none⟩) s.size cap) w1 ∧
    w1.heap[w.heap.size]? = some (.cells row 5 fz) ∧ (∀ j, j < s.size → row[j]? = some (.int .u8 (s.data.toList.getD j 0).toNat)) ∧ Below w.heap.size w w1 ∧ w1.heap.size = w.heap.size + 1 :=
  ⟨_, _, _, _, Lib.run_convert_string_bytes (P := Tryz.prog) w 9 205 5 s Tryz.underlying9 Tryz.underlying205 Tryz.underlying5, Lib.bytesWorld_at_new w _ s,
    fun j hj => by
      have h := Lib.bytesWorld_cell w 5 s j hj
      unfold World.cell? at h; rw [Lib.bytesWorld_at_new] at h; exact h,
    ⟨rfl, rfl, rfl, by rw [Lib.bytesWorld_size]; omega, fun k hk => Lib.bytesWorld_at_old w _ s k hk⟩, Lib.bytesWorld_size w _ s⟩

theorem ownsRow_form {w : World} {B e n : Nat} {v : Value} {xs : List Value} (h : w.ownsRow B e 1 v n xs) (hv : v ≠ .slice none 0 0) : ∃ g cap cur, v = .slice (some ⟨g, 0, none⟩) n cap ∧ w.heap[g]? = some (.cells cur e (0, 0)) := by
  rcases h.2 with ⟨h, _⟩ | ⟨g, cap, cur, h, _, h2, _⟩
  · exact absurd h hv
  · exact ⟨g, cap, cur, h, h2⟩

/-- one key more: the steps of a round, in the heap. -/
theorem RepM.next {B : Nat} {wr w3 w5 : World} {tb m : Nat} (hM : RepM B wr tb m) (hm : m < 8) {v' : Value} {gv' cv' cap5 : Nat} {row5 : Array Value} {fz5 : Nat × Nat}
    (h3 : ∀ k, k < wr.heap.size → (∀ c fz, wr.heap[k]? ≠ some (.cells c 9 fz)) → w3.heap[k]? = wr.heap[k]?) (h3s : wr.heap.size ≤ w3.heap.size)
    (hv' : v' = .slice (some ⟨gv', 0, none⟩) (m + 1) cv') (hown' : w3.ownsRow B 9 1 v' (m + 1) ((List.range (m + 1)).map fun i => .string ⟨#[keyAt i]⟩))
    (hb5 : Below w3.heap.size (w3.setCell ⟨tb, 256, none⟩ v') w5) (hr5 : w5.heap[w3.heap.size]? = some (.cells row5 5 fz5)) (hrow5 : ∀ j, j < xlen (keyAt m) → row5[j]? = some (.int .u8 ((escB (keyAt m)).getD j 0).toNat)) :
    RepM B (w5.setCell ⟨tb, (keyAt m).toNat, none⟩ (.slice (some ⟨w3.heap.size, 0, none⟩) (xlen (keyAt m)) cap5)) tb (m + 1) := by
  obtain ⟨⟨cur, v, hcur, hcs, hnil, hsome, hv, hown, hvn⟩, hlow⟩ := hM
  have htb : tb < wr.heap.size := (Array.getElem?_eq_some_iff.1 hcur).1
  have h3tb : w3.heap[tb]? = some (.cells cur 410 (0, 0)) := by
    rw [h3 tb htb (fun c fz e => by rw [hcur] at e; simp at e), hcur]
  have h4tb := heap_setCell_same w3 tb 256 cur 410 v' h3tb
  have h5tb : w5.heap[tb]? = some (.cells (cur.setIfInBounds 256 v') 410 (0, 0)) := (hb5.block tb (by omega)).trans h4tb
  have h6tb := heap_setCell_same w5 tb (keyAt m).toNat _ 410 (.slice (some ⟨w3.heap.size, 0, none⟩) (xlen (keyAt m)) cap5) h5tb
  have hks := key_small m hm
  obtain ⟨gq, cq, rq, hvq, hgq⟩ := ownsRow_form hown' (by rw [hv']; simp)
  have hgeq : gq = gv' := by rw [hv'] at hvq; simp at hvq; exact hvq.1.symm
  have hgne : gv' ≠ tb := by
    intro e; rw [hgeq, e, h3tb] at hgq; simp at hgq
  have hglt : gv' < w3.heap.size := by rw [hgeq] at hgq; exact (Array.getElem?_eq_some_iff.1 hgq).1
  refine ⟨⟨_, v', h6tb, by simp [hcs], ?_, ?_, ?_, ?_, by rw [hv']; simp⟩, hlow⟩
  · intro c hc
    have hne : (keyAt m).toNat ≠ c.toNat := fun e => hc m (by omega) (UInt8.toNat_inj.1 e)
    have hc256 := c.toNat_lt
    rw [Array.getElem?_setIfInBounds_ne hne, Array.getElem?_setIfInBounds_ne (by omega)]
    exact hnil c fun i hi => hc i (by omega)
  · intro i hi
    by_cases him : i = m
    · subst him
      refine ⟨w3.heap.size, cap5, row5, fz5, ?_, ?_, hrow5⟩
      · rw [Array.getElem?_setIfInBounds_self_of_lt (by simp [hcs]; omega)]
      · rw [heap_setCell_other _ _ _ _ (by show _ ≠ tb; omega)]; exact hr5
    · obtain ⟨g, cp, row, fz, hg1, hg2, hg3⟩ := hsome i (by omega)
      have hne : (keyAt m).toNat ≠ (keyAt i).toNat := fun e => key_ne m i hm (by omega) (fun e => him e.symm) (UInt8.toNat_inj.1 e)
      have hk256 := key_small i (by omega)
      have hgtb : g ≠ tb := by intro e; rw [e, hcur] at hg2; simp at hg2
      have hglt' : g < wr.heap.size := (Array.getElem?_eq_some_iff.1 hg2).1
      refine ⟨g, cp, row, fz, ?_, ?_, hg3⟩
      · rw [Array.getElem?_setIfInBounds_ne hne, Array.getElem?_setIfInBounds_ne (by omega)]; exact hg1
      · rw [heap_setCell_other _ _ _ _ hgtb, hb5.block g (by omega), heap_setCell_other _ _ _ _ hgtb, h3 g hglt' (fun c fz' e => by rw [hg2] at e; simp at e), hg2]
  · rw [Array.getElem?_setIfInBounds_ne (by omega), Array.getElem?_setIfInBounds_self_of_lt (by rw [hcs]; omega)]
  · have k1 : (w3.setCell ⟨tb, 256, none⟩ v').ownsRow B 9 1 v' (m + 1) ((List.range (m + 1)).map fun i => .string ⟨#[keyAt i]⟩) :=
      hown'.kept (row := some tb) ⟨rfl, rfl, rfl, by simp [World.setCell], fun k _ hk => heap_setCell_other _ _ _ _ (fun e => hk (by rw [e]))⟩ (Or.inr (by rw [hv']; simpa [Value.ownBlock] using hgne))
    have k2 : w5.ownsRow B 9 1 v' (m + 1) ((List.range (m + 1)).map fun i => .string ⟨#[keyAt i]⟩) := by
      refine ⟨k1.1, ?_⟩
      rcases k1.2 with hn | ⟨g, cap, c, hvv, hBg, hgg, rest⟩
      · exact .inl hn
      · refine .inr ⟨g, cap, c, hvv, hBg, (hb5.block g ?_).trans hgg, rest⟩
        have := (Array.getElem?_eq_some_iff.1 hgg).1
        simpa using this
    exact k2.kept (row := some tb) ⟨rfl, rfl, rfl, by simp [World.setCell], fun k _ hk => heap_setCell_other _ _ _ _ (fun e => hk (by rw [e]))⟩ (Or.inr (by rw [hv']; simpa [Value.ownBlock] using hgne))

/-- all keys are in: the table. -/
theorem RepM.full {B : Nat} {w : World} {tb : Nat} (h : RepM B w tb 8) : RepAt w tb := by
  obtain ⟨⟨cur, v, hcur, hcs, hnil, hsome, hv, hown, hvn⟩, _⟩ := h
  have cell : ∀ j u, cur[j]? = some u → w.cell? ⟨tb, j, none⟩ = some u := by
    intro j u hj; unfold World.cell?; simp only [hcur]; exact hj
  refine ⟨fun c hc => cell _ _ (hnil c fun i hi e => ?_), fun c hc => ?_, ?_⟩
  · rw [← e, key_sp i hi] at hc; cases hc
  · obtain ⟨i, hi, rfl⟩ := sp_key c hc
    obtain ⟨g, cp, row, fz, h1, h2, h3⟩ := hsome i hi
    refine ⟨g, cp, cell _ _ h1, fun j hj => ?_⟩
    unfold World.cell?; simp only [h2]; exact h3 j hj
  · obtain ⟨gv, cv, row, rfl, hrow⟩ := ownsRow_form hown hvn
    refine ⟨gv, cv, cell _ _ hv, fun j hj => ?_⟩
    have := hown.cells (g := gv) rfl j (.string ⟨#[keyAt j]⟩) (by simp [hj])
    rw [addr_add] at this; exact this

set_option maxRecDepth 1000000 in
set_option maxHeartbeats 4000000 in
theorem build_c (b rb cp : Nat) (w : World) (h4 : w.cell? ⟨b, 4, none⟩ = some (.slice (some ⟨rb, 0, none⟩) 16 cp)) (hon : ∀ j, j < 16 → w.cell? ⟨rb, j, none⟩ = some (.string ⟨(onAt j).toArray⟩)) :
    Calls Tryz.prog 277 #[.pointer (some ⟨b, 0, none⟩)] w fun e w' => ∃ tb, e = .returned (.iface 411 (.pointer (some ⟨tb, 0, none⟩))) ∧ Below w.heap.size w w' ∧ RepAt w' tb := by
  have HO := Lib.hid hon; clear hon
  go_enter Tryz.func277, Tryz.ntmps277
  go_wp2_with fail
  go_loopg [4, 5] 8 (fun g a i wr => w = wr ∧ ∃ k : Nat, k ≤ 8 ∧ g = 8 - k ∧ i = .int .i64 (2 * (k : Int)) ∧ a = .bool (decide (k = 0)))
  case atStart => exact ⟨rfl, 0, by omega, rfl, rfl, rfl⟩
  case round =>
    obtain ⟨rfl, k, hk8, hg, rfl, rfl⟩ := hrel
    have HG := Lib.hid hg; clear hg
    by_cases hlt : k < 8
    · have c1 := HO.out (2 * k) (by omega)
      have c2 := HO.out (2 * k + 1) (by omega)
      rw [on_even] at c1
      rw [on_odd] at c2
      have hx := esc_sp _ (key_sp (7 - k) (by omega))
      unfold xlen at hx
      have hsz2 : (ByteArray.mk (escB (keyAt (7 - k))).toArray).size = (escB (keyAt (7 - k))).length := by show (List.toArray _).size = _; simp
      have hsz1 : (ByteArray.mk [keyAt (7 - k)].toArray).size = 1 := rfl
      generalize ByteArray.mk (escB (keyAt (7 - k))).toArray = S2 at c2 hsz2
      generalize ByteArray.mk [keyAt (7 - k)].toArray = S1 at c1 hsz1
      have hne : ¬ (S2.size : Int) = 1 := by omega
      have e2 : (2 * (k : Int)).toNat = 2 * k := by omega
      have e3 : (2 * (k : Int) + 1).toNat = 2 * k + 1 := by omega
      clear hx hsz2
      go_wp2_with fail
      go_roundg (8 - (k + 1))
      case measure => have := HG.out; omega
      case rel => exact ⟨rfl, k + 1, by omega, rfl, by go_num, by simp⟩
    · obtain rfl : k = 8 := by omega
      obtain ⟨w1, hmk, hown, hb1, hz1⟩ := make_eight w
      obtain ⟨cur0, w2, hst, hcur0, hcs0, hnil0, hv0, hb2, hz2⟩ := store_rep w1 (w.heap.size + 1) hz1.symm (.slice (some ⟨w.heap.size, 0, none⟩) 0 8) rfl
      have hM0 : RepM w.heap.size w2 (w.heap.size + 1) 0 := by
        refine ⟨⟨cur0, _, hcur0, hcs0, fun c _ => hnil0 _ c.toNat_lt, fun i hi => by omega, hv0, ?_, by simp⟩, by omega⟩
        refine hown.kept (row := none) ⟨hb2.os, hb2.tape, hb2.output, hb2.size, fun k hk _ => hb2.block k hk⟩ (Or.inr (by simp [Value.ownBlock]))
      have hbw2 : Below w.heap.size w w2 := hb1.trans (hb2.mono (by omega))
      have HM := Lib.hid (And.intro hM0 hbw2)
      clear hM0 hbw2 hcur0 hcs0 hnil0 hv0 hown hb1 hb2
      go_wp2_with fail
      clear hst hmk h4
      go_loopg [12] 8 (fun g i wr => Below w.heap.size w wr ∧ ∃ m : Nat, m ≤ 8 ∧ g = 8 - m ∧ i = .int .i64 (14 - 2 * (m : Int)) ∧ RepM w.heap.size wr (w.heap.size + 1) m)
      case atStart => exact ⟨HM.out.2, 0, by omega, rfl, rfl, HM.out.1⟩
      case round =>
        obtain ⟨hb, m, hm8, hg2, rfl, hM⟩ := hrel
        have keep : ∀ (a : Addr) (v : Value), w.cell? a = some v → wr.cell? a = some v := fun a v ha => (hb.cell (p := a) (World.block_lt_of_cell? w a ha)).trans ha
        by_cases hlt : m < 8
        · obtain ⟨cur, v, hcur, hcs, hnil, hsome, hv, hown, hvn⟩ := hM.tab
          have hvf : ∃ gv cv row, v = .slice (some ⟨gv, 0, none⟩) m cv ∧ wr.heap[gv]? = some (.cells row 9 (0, 0)) := by
            rcases hown.2 with ⟨h, _⟩ | ⟨gv, cv, row, h, _, h2, _⟩
            · exact absurd h hvn
            · exact ⟨gv, cv, row, h, h2⟩
          obtain ⟨gv, cv, row, rfl, hrow⟩ := hvf
          have c1 := keep _ _ (HO.out (2 * (7 - m)) (by omega))
          have c2 := keep _ _ (HO.out (2 * (7 - m) + 1) (by omega))
          rw [on_even, show 7 - (7 - m) = m from by omega] at c1
          rw [on_odd, show 7 - (7 - m) = m from by omega] at c2
          have e2 : (14 - 2 * (m : Int)).toNat = 2 * (7 - m) := by omega
          have e3 : (14 - 2 * (m : Int) + 1).toNat = 2 * (7 - m) + 1 := by omega
          have hq256 : ((keyAt m).toNat : Int) < 256 := by have := (keyAt m).toNat_lt; omega
          have hc0 : wr.cell? ⟨w.heap.size + 1, (keyAt m).toNat, none⟩ = some (.slice none 0 0) := by
            unfold World.cell?; simp only [hcur]
            rw [← hnil (keyAt m) (fun i hi => key_ne i m (by omega) hlt (by omega))]; rfl
          have hc1 : wr.cell? ⟨w.heap.size + 1, 256, none⟩ = some (.slice (some ⟨gv, 0, none⟩) m cv) := by
            unfold World.cell?; simp only [hcur]; rw [← hv]; rfl
          have hszw := hb.size
          have hltb : w.heap.size + 1 < wr.heap.size := (Array.getElem?_eq_some_iff.1 hcur).1
          have HB := Lib.hid (And.intro hg2 (And.intro hb (And.intro hM (And.intro hcur (And.intro hown hrow)))))
          clear hg2 hb hM hcur hcs hnil hsome hv hvn hrow keep
          obtain ⟨N, hN⟩ : ∃ N, N = ByteArray.mk (escB (keyAt m)).toArray := ⟨_, rfl⟩
          rw [← hN] at c2
          have HN := Lib.hid hN; clear hN
          generalize hq : keyAt m = q at *
          have HQ := Lib.hid hq; clear hq
          have HOW := Lib.hid hown; clear hown
          have hq0 : ∀ h, (⟨[q].toArray⟩ : ByteArray)[0]'h = q := fun _ => rfl
          have hq1 : ∀ h, (⟨#[q]⟩ : ByteArray)[0]'h = q := fun _ => rfl
          have hnn : ∀ W, (binOp .eql 205 (.slice none 0 0) (.slice none 0 0)).run Tryz.prog W = .ok (.bool true) W := fun W => Lib.run_eql_slice_nil W 205 5 none 0 0 0 0 Tryz.underlying205
          have hcv : (convert 205 9 (.slice (some ⟨wr.heap.size, 0, none⟩) 1 1)).run Tryz.prog (wr.alloc (.cells #[.int .u8 q.toNat] 5)) = .ok (.string ⟨#[q]⟩) (wr.alloc (.cells #[.int .u8 q.toNat] 5)) := run_convert_bytes_back (P := Tryz.prog) (wr.alloc (.cells #[.int .u8 q.toNat] 5)) 205 9 5 ⟨wr.heap.size, 0, none⟩ 1 [q] Tryz.underlying205 Tryz.underlying5 Tryz.underlying9 (by
            intro j hj
            obtain rfl : j = 0 := by simp at hj; omega
            simp [Addr.add])
          obtain ⟨i0, hi, hz0, hzz, hz2⟩ := info_parts A_infoS
          go_wp2_with (first | (at_builtin; refine wpList_append_own _ rfl (.tmp 119) (.tmp 123) 57 rfl w.heap.size 9 i0 (.string ⟨#[]⟩) 1 16 Tryz.underlying57 hi hz0 hzz hz2 rfl (by decide) _ _ _ rfl ((HOW.out.alloc _).alloc _) ⟨wr.heap.size + 1, 0, none⟩ 1 1 [.string ⟨#[q]⟩] rfl rfl ?c1 ?c2 ?c3 ?c4 ?c5 ?_))
          case c1 => intro j u hj; match j, hj with | 0, hj => simp at hj; subst hj; simp [Addr.add]
          case c2 => intro u hu; simp at hu; subst hu; rfl
          case c3 => unfold maxLen; omega
          case c4 => omega
          case c5 => simp; omega
          intro v' w3 hown' hgrow hnil'
          have hvne : v' ≠ .slice none 0 0 := fun e => hnil' e
          obtain ⟨gv', cv', row', rfl, hrow'⟩ := ownsRow_form hown' hvne
          clear hvne hnil' hcv hrow'
          obtain ⟨hg2, hb, hM, hcur, hown, hrow⟩ := HB.out
          have hgvB : w.heap.size ≤ gv := (hown.lt gv rfl).1
          have hg3 : ∀ k, k < wr.heap.size → (∀ c fz, wr.heap[k]? ≠ some (.cells c 9 fz)) → w3.heap[k]? = wr.heap[k]? := by
            intro k hk hne
            rw [hgrow.block k (by simp; omega) (fun e => by
              have : k = gv := by simpa [Value.ownBlock] using e
              exact hne row (0, 0) (by rw [this]; exact hrow)), Lib.alloc_old _ _ _ (by simp; omega), Lib.alloc_old _ _ _ hk]
          have h3s : wr.heap.size + 2 ≤ w3.heap.size := by have := hgrow.size; simp at this; omega
          have hb3 : Below w.heap.size w w3 := hb.trans ((((Below.refl w.heap.size wr).alloc hszw _).alloc (by simp; omega) _).grown hgrow (by simp; omega) (fun k hk => by simp [Value.ownBlock] at hk; omega))
          have h3tb : w3.heap[w.heap.size + 1]? = some (.cells cur 410 (0, 0)) := by
            rw [hg3 _ hltb (fun c fz e => by rw [hcur] at e; simp at e), hcur]
          have hc3 : w3.cell? ⟨w.heap.size + 1, 256, none⟩ = some (.slice (some ⟨gv, 0, none⟩) m cv) := by rw [← hc1]; unfold World.cell?; simp only [h3tb, hcur]
          have hf3 : w3.frozen? ⟨w.heap.size + 1, 256, none⟩ = false := by unfold World.frozen?; simp only [h3tb]; rfl
          obtain ⟨cap5, row5, fz5, w5, hconv, hr5, hrow5, hb5, hz5⟩ := conv_row N (w3.setCell ⟨w.heap.size + 1, 256, none⟩ (.slice (some ⟨gv', 0, none⟩) (m + 1) cv'))
          rw [World.size_setCell] at hconv hr5 hb5 hz5
          have h4tb := heap_setCell_same w3 (w.heap.size + 1) 256 cur 410 (.slice (some ⟨gv', 0, none⟩) (m + 1) cv') h3tb
          have h5tb := (hb5.block (w.heap.size + 1) (by omega)).trans h4tb
          have hc5 : w5.cell? ⟨w.heap.size + 1, q.toNat, none⟩ = some (.slice none 0 0) := by
            rw [← hc0]; unfold World.cell?; simp only [h5tb, hcur]
            simp only [Option.isSome_none, Bool.false_eq_true, if_false]
            exact Array.getElem?_setIfInBounds_ne (by omega)
          have hf5 : w5.frozen? ⟨w.heap.size + 1, q.toNat, none⟩ = false := by unfold World.frozen?; simp only [h5tb]; simp
          have hNs : N.size = xlen q := by rw [HN.out]; show (List.toArray _).size = _; rw [List.size_toArray]; rfl
          have hNd : N.data.toList = escB q := by rw [HN.out]
          rw [hNs] at hconv hrow5
          rw [hNd] at hrow5
          have hown'' : w3.ownsRow w.heap.size 9 1 (.slice (some ⟨gv', 0, none⟩) (m + 1) cv') (m + 1) ((List.range (m + 1)).map fun i => .string ⟨#[keyAt i]⟩) := by
            rw [List.range_succ, List.map_append]
            simp only [List.map_cons, List.map_nil]
            rw [HQ.out]; exact hown'
          have hNX := RepM.next hM hlt hg3 (by omega) rfl hown'' hb5 hr5 (cap5 := cap5) (by rw [HQ.out]; exact hrow5)
          rw [HQ.out] at hNX
          have hb6 : Below w.heap.size w (w5.setCell ⟨w.heap.size + 1, q.toNat, none⟩ (.slice (some ⟨w3.heap.size, 0, none⟩) (xlen q) cap5)) :=
            ((hb3.setCell (p := ⟨w.heap.size + 1, 256, none⟩) (by show w.heap.size ≤ w.heap.size + 1; omega) _).trans (hb5.mono (by omega))).setCell (p := ⟨w.heap.size + 1, q.toNat, none⟩) (by show w.heap.size ≤ w.heap.size + 1; omega) _
          have HX := Lib.hid (And.intro hNX (And.intro hb6 hg2))
          clear hNX hb6 hg2 hown'' hNd hNs h5tb h4tb hr5 hrow5 hb5 h3tb hb3 hg3 hown' hgrow hcur hown hrow hM hb hq0 hq1 hnn hi hz0 hzz hz2
          go_wp2_with fail
          go_roundg (8 - (m + 1))
          case measure => have := HX.out.2.2; omega
          case rel => exact ⟨HX.out.2.1, m + 1, by omega, rfl, by go_num, HX.out.1⟩
        · obtain rfl : m = 8 := by omega
          have HX := Lib.hid (And.intro hb hM.full)
          clear hM keep hb
          go_wp2_with fail
          go_ret
          exact ⟨w.heap.size + 1, rfl, HX.out.1, HX.out.2⟩
end Go.Proofs.YtkgdchbflocblaaGreatDoor
