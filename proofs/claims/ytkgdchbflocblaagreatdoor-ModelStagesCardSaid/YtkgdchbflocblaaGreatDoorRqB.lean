/- The walk of the byte replacer's Replace over the escape table. Conditions: the table lies in memory; the text has at most 2^31 bytes. -/
import Derived.Test.YtkgdchbflocblaaGreatDoorChC
import Derived.Test.YtkgdchbflocblaaGreatDoorPlB
import Derived.Laws.CopyOwn
import Derived.Laws.MakeOwn
import Derived.Deep.DeepCutAuto
namespace Go.Proofs.YtkgdchbflocblaaGreatDoor
open Go.RowKit Go.Sof

/-- the escape table, in memory: block tb holds 256 slices of bytes and the list of the keys. -/
structure RepAt (w : World) (tb : Nat) : Prop where
  plain : ∀ c : UInt8, isSp c = false → w.cell? ⟨tb, c.toNat, none⟩ = some (.slice none 0 0)
  special : ∀ c : UInt8, isSp c = true → ∃ g cp, w.cell? ⟨tb, c.toNat, none⟩ = some (.slice (some ⟨g, 0, none⟩) (xlen c) cp) ∧ ∀ j, j < xlen c → w.cell? ⟨g, j, none⟩ = some (.int .u8 ((escB c).getD j 0).toNat)
  keys : ∃ tr cp, w.cell? ⟨tb, 256, none⟩ = some (.slice (some ⟨tr, 0, none⟩) 8 cp) ∧ ∀ j, j < 8 → w.cell? ⟨tr, j, none⟩ = some (.string ⟨#[keyAt j]⟩)

theorem RepAt.below {w w' : World} {tb : Nat} (h : RepAt w tb) (hb : Below w.heap.size w w') : RepAt w' tb := by
  have key : ∀ (a : Addr) (v : Value), w.cell? a = some v → w'.cell? a = some v := fun a v ha => (hb.cell (p := a) (World.block_lt_of_cell? w a ha)).trans ha
  refine ⟨fun c hc => key _ _ (h.plain c hc), fun c hc => ?_, ?_⟩
  · obtain ⟨g, cp, h1, h2⟩ := h.special c hc
    exact ⟨g, cp, key _ _ h1, fun j hj => key _ _ (h2 j hj)⟩
  · obtain ⟨tr, cp, h1, h2⟩ := h.keys
    exact ⟨tr, cp, key _ _ h1, fun j hj => key _ _ (h2 j hj)⟩

theorem count_c (s : ByteArray) (c : UInt8) (w : World) : Calls Tryz.prog 342 #[.string s, .string ⟨#[c]⟩] w fun e w' => e = .returned (.int .i64 (s.data.toList.count c)) ∧ w = w' :=
  (Tryz.strings_Count_one s c w).mono fun _ _ ⟨he, hw⟩ => ⟨he, hw.symm⟩

theorem A_info5 : (Tryz.prog.info? 5).map (fun i => (i.zero, i.size, i.bytes)) = some (some (.int .u8 0), 1, 1) := by kernel_rfl

/-- 'make([]byte, n)'. -/
theorem make_bytes (n : Nat) (w : World) (hn : n ≤ 281474976710656) : ∃ cur w1, (Instr.makeSlice 205 (.int .i64 (n : Int)) (.int .i64 (n : Int))).run Tryz.prog w = .ok (.slice (some ⟨w.heap.size, 0, none⟩) n n) w1 ∧
    w1.heap[w.heap.size]? = some (.cells (List.toArray cur) 5 (0, 0)) ∧ cur.length = n ∧ Below w.heap.size w w1 := by
  obtain ⟨i0, hi, hz0, hz1, hz2⟩ := info_parts A_info5
  have hr := run_make (P := Tryz.prog) w 205 5 i0 (.int .u8 0) Tryz.underlying205 hi hz0 .i64 .i64 n n (by omega) (Int.le_refl _) (by rw [hz2]; omega) (by omega)
  simp only [Int.toNat_natCast] at hr
  refine ⟨(madeCells (Value.cells (.int .u8 0)) (n * i0.size)).toList, _, hr, ?_, ?_, (Below.refl _ w).alloc (Nat.le_refl _) _⟩
  · rw [heap_alloc_new]
  · rw [Array.length_toList, size_madeCells, hz1, Nat.mul_one]

/-- what lies in the buffer: the first j bytes of E. -/
def BufAt (wr : World) (bf : Nat) (E : Bytes) (j : Nat) : Prop := ∃ cur : List Value, wr.heap[bf]? = some (.cells cur.toArray 5 (0, 0)) ∧ cur.length = E.length ∧ cur.take j = Lib.byteCells (E.take j)

theorem byteCells_append (a b : Bytes) : Lib.byteCells (a ++ b) = Lib.byteCells a ++ Lib.byteCells b := by unfold Lib.byteCells; rw [List.map_append]

theorem addr_add (g j : Nat) : (⟨g, 0, none⟩ : Addr).add j = ⟨g, j, none⟩ := by unfold Addr.add; split <;> simp_all

theorem take_esc {L E : Bytes} (hE : E = escL L) {i : Nat} (h : i < L.length) : E.take ((escL (L.take i)).length + xlen (L.getD i 0)) = E.take (escL (L.take i)).length ++ escB (L.getD i 0) ∧ (escL (L.take i)).length + xlen (L.getD i 0) ≤ E.length := by
  have e1 : E = escL (L.take i) ++ (escB (L.getD i 0) ++ escL (L.drop (i + 1))) := by
    rw [hE, ← List.append_assoc, ← escL_take_succ L i h, ← escL_append, List.take_append_drop]
  refine ⟨?_, ?_⟩
  · rw [e1, List.take_left, ← List.append_assoc]
    unfold xlen
    rw [← List.length_append, List.take_left]
  · rw [e1, List.length_append, List.length_append]; unfold xlen; omega
set_option maxRecDepth 100000 in
set_option maxHeartbeats 4000000 in
theorem rep_c (s : ByteArray) (w : World) (tb : Nat) (hR : RepAt w tb) (hs : s.size ≤ 2147483648) :
    Calls Tryz.prog 389 #[.pointer (some ⟨tb, 0, none⟩), .string s] w fun e w' => e = .returned (.string ⟨(escL s.data.toList).toArray⟩) ∧ Below w.heap.size w w' := by
  obtain ⟨E, hE⟩ : ∃ E, E = escL s.data.toList := ⟨_, rfl⟩
  rw [← hE]
  have hlenE : E.length = s.size + gr s.data.toList 8 := by rw [hE, escL_len, size_list]
  have hleE := escL_le s.data.toList
  rw [← hE, size_list] at hleE
  obtain ⟨tr, cp, hk, hkeys⟩ := hR.keys
  have HE := Lib.hid (And.intro hE (And.intro hlenE (And.intro hkeys hR))); clear hE hlenE hkeys hR
  by_cases hA : 64 ≤ s.size
  · have hAd : decide ((64 : Int) ≤ s.size) = true := by simp; omega
    go_enter Tryz.func389, Tryz.ntmps389
    go_wp2_with fail
    clear hk
    go_loopg [5, 6, 32] 8 (fun g n an i wr => Below w.heap.size w wr ∧ ∃ k : Nat, k ≤ 8 ∧ g = 8 - k ∧ i = .int .i64 k ∧ n = .int .i64 (s.size + gr s.data.toList k) ∧ an = .bool (anyK s.data.toList k))
    case atStart => exact ⟨Below.refl _ _, 0, by omega, rfl, rfl, by go_num, rfl⟩
    case round =>
      obtain ⟨hb, k, hk8, hg, rfl, rfl, rfl⟩ := hrel
      have HG := Lib.hid (And.intro hg hb); clear hg
      have keep : ∀ (a : Addr) (v : Value), w.cell? a = some v → wr.cell? a = some v := fun a v ha => (hb.cell (p := a) (World.block_lt_of_cell? w a ha)).trans ha
      by_cases hlt : k < 8
      · have hx := keep _ _ (HE.out.2.2.1 k hlt)
        obtain ⟨g, cq, h1', h2⟩ := HE.out.2.2.2.special (keyAt k) (key_sp k hlt)
        have h1 := keep _ _ h1'
        clear keep h1' hb
        have hgs : gr s.data.toList (k + 1) = gr s.data.toList k + s.data.toList.count (keyAt k) * (xlen (keyAt k) - 1) := rfl
        have has : anyK s.data.toList (k + 1) = (anyK s.data.toList k || (s.data.toList.count (keyAt k) != 0)) := rfl
        have hxl := esc_sp _ (key_sp k hlt)
        have hcl : s.data.toList.count (keyAt k) ≤ s.size := List.count_le_length
        have hgl := gr_le s.data.toList k (by omega)
        have hcc := count_c s (keyAt k) wr
        have hgl2 : gr s.data.toList k ≤ 6 * s.size := by have := HE.out.2.1; omega
        clear hgl
        generalize xlen (keyAt k) = X at *
        generalize keyAt k = q at *
        generalize gr s.data.toList k = G at *
        generalize s.data.toList.count q = C at *
        generalize anyK s.data.toList k = AK at *
        have HS := Lib.hid (And.intro hgs has); clear hgs has h2
        have hcX : C * (X - 1) ≤ 5 * s.size := Nat.le_trans (Nat.mul_le_mul hcl (show X - 1 ≤ 5 from by omega)) (by omega)
        have HC := Lib.hid hcc; clear hcc
        by_cases hC : C = 0
        · subst hC
          go_wp2_with (first | (go_at_call 342; refine HC.out.mono ?_; rintro e w' ⟨rfl, rfl⟩))
          go_roundg (8 - (k + 1))
          case measure => have := HG.out.1; omega
          case rel => exact ⟨HG.out.2, k + 1, by omega, rfl, by go_num, by rw [HS.out.1]; simp, by rw [HS.out.2]; simp⟩
        · have hCb : ((C : Int) != 0) = true := by simpa using hC
          have hq : (q.toNat : Int) < 256 := by have := q.toNat_lt; omega
          have eX : ((X - 1 : Nat) : Int) = (X : Int) - 1 := by omega
          have hcXi : (C : Int) * ((X : Int) - 1) ≤ 5 * s.size := by rw [← eX, ← Int.natCast_mul]; omega
          have hcX0 : 0 ≤ (C : Int) * ((X : Int) - 1) := by rw [← eX, ← Int.natCast_mul]; omega
          clear eX
          go_wp2_with (first | (go_at_call 342; refine HC.out.mono ?_; rintro e w' ⟨rfl, rfl⟩))
          have w1 : IntKind.i64.wrap ((X : Int) - 1) = (X : Int) - 1 := IntWalk.i64_in _ (by omega)
          have w2 : IntKind.i64.wrap ((C : Int) * ((X : Int) - 1)) = (C : Int) * ((X : Int) - 1) := IntWalk.i64_in _ (by omega)
          have w3 : IntKind.i64.wrap ((s.size : Int) + (G : Int) + (C : Int) * ((X : Int) - 1)) = (s.size : Int) + (G : Int) + (C : Int) * ((X : Int) - 1) := IntWalk.i64_in _ (by omega)
          have hq0 : ∀ h, (⟨#[q]⟩ : ByteArray)[0]'h = q := fun _ => rfl
          go_quiet (fail)
          clear w1 w2 w3 hq0
          go_wp2
          go_roundg (8 - (k + 1))
          case measure => have := HG.out.1; omega
          case rel => exact ⟨HG.out.2.trans ⟨rfl, rfl, rfl, Nat.le_refl _, fun _ _ => rfl⟩, k + 1, by omega, rfl, by go_num, by rw [HS.out.1]; show Value.int _ _ = Value.int _ _; congr 1; rw [Int.natCast_add, Int.natCast_mul, show ((X - 1 : Nat) : Int) = (X : Int) - 1 from by omega]; omega, by rw [HS.out.2]; simp [hC]⟩
      · obtain rfl : k = 8 := by omega
        have hn : (s.size : Int) + (gr s.data.toList 8 : Int) = (E.length : Int) := by rw [HE.out.2.1]; omega
        rw [hn, anyK_sp]
        clear hn
        cases hany : s.data.toList.any isSp with
        | false =>
          have hEs : E = s.data.toList := by rw [HE.out.1]; exact escL_none _ hany
          clear hany
          go_wp2_with fail
          go_ret
          exact ⟨ret_str (by rw [hEs]), HG.out.2⟩
        | true =>
          clear hany
          obtain ⟨wo, rfl⟩ : ∃ wo : World, wo = wr := ⟨_, rfl⟩
          obtain ⟨cur0, w1, hmk, hbuf0, hcl0, hb1⟩ := make_bytes E.length wo (by omega)
          go_wp2_with fail
          clear hmk
          go_loopg [13, 14] s.size (fun g jv iv wx => Below w.heap.size w wx ∧ ∃ i : Nat, i ≤ s.size ∧ g = s.size - i ∧ iv = .int .i64 i ∧ jv = .int .i64 (escL (s.data.toList.take i)).length ∧ BufAt wx wo.heap.size E (escL (s.data.toList.take i)).length)
          case atStart => exact ⟨HG.out.2.trans (hb1.mono HG.out.2.size), 0, Nat.zero_le _, rfl, rfl, rfl, cur0, hbuf0, hcl0, rfl⟩
          case round =>
            obtain ⟨hb, i, hi, hg, rfl, rfl, hbuf⟩ := hrel
            have HG2 := Lib.hid (And.intro hg (And.intro hb hbuf)); clear hg
            have keep : ∀ (a : Addr) (v : Value), w.cell? a = some v → wr.cell? a = some v := fun a v ha => (hb.cell (p := a) (World.block_lt_of_cell? w a ha)).trans ha
            by_cases hlt : i < s.size
            · have hxc : s.data.toList.getD i 0 = s[i]'hlt := by
                have h' : i < s.data.toList.length := hlt
                rw [List.getD_eq_getElem?_getD, List.getElem?_eq_getElem h']; rfl
              have htk := take_esc HE.out.1 (i := i) hlt
              have hts := escL_take_succ s.data.toList i hlt
              rw [hxc] at htk hts
              obtain ⟨c, hcx⟩ : ∃ c, s[i]'hlt = c := ⟨_, rfl⟩
              rw [hcx] at htk hts
              have hc256 : (c.toNat : Int) < 256 := by have := c.toNat_lt; omega
              obtain ⟨J', hJ'⟩ : ∃ J', (escL (s.data.toList.take (i + 1))).length = J' := ⟨_, rfl⟩
              have hJJ : J' = (escL (s.data.toList.take i)).length + xlen c := by rw [← hJ', hts, List.length_append]; rfl
              generalize (escL (s.data.toList.take i)).length = J at htk hJJ hbuf HG2 ⊢
              obtain ⟨cur, hcur, hcurl, hcurt⟩ := hbuf
              have hw0 := HG.out.2.size
              have hfit := htk.2
              cases hsp : isSp c with
              | false =>
                have h1 := keep _ _ (HE.out.2.2.2.plain c hsp)
                have hx1 := xlen_plain c hsp
                have hcell : ∃ x0, wr.cell? ⟨wo.heap.size, J, none⟩ = some x0 := ⟨cur[J]'(by omega), by
                  unfold World.cell?; simp only [hcur]; simp⟩
                have hfz : wr.frozen? ⟨wo.heap.size, J, none⟩ = false := by unfold World.frozen?; simp only [hcur]; simp
                have hset := heap_setCell_same wr wo.heap.size J cur.toArray 5 (.int .u8 c.toNat) hcur
                have HT := Lib.hid (And.intro htk (And.intro hJ' (And.intro hJJ (And.intro hcurl (And.intro hcurt (And.intro hset hx1))))))
                rw [hx1] at hfit
                obtain ⟨x0, hcell⟩ := hcell
                clear htk hts hJ' hJJ hcurl hcurt hset keep hcur hxc hx1 hb
                go_wp2_with fail
                go_roundg (s.size - (i + 1))
                case measure => have := HG2.out.1; omega
                case rel =>
                  obtain ⟨htk, hJ', hJJ, hcurl, hcurt, hset, hx1⟩ := HT.out
                  rw [hx1] at hJJ htk
                  subst hJJ
                  refine ⟨HG2.out.2.1.setCell (p := ⟨wo.heap.size, J, none⟩) hw0 _, i + 1, by omega, rfl, by go_num, by rw [hJ']; go_num, ?_⟩
                  rw [hJ']
                  refine ⟨cur.set J (.int .u8 c.toNat), ?_, by simpa using hcurl, ?_⟩
                  · rw [hset]; simp
                  · rw [List.take_succ_eq_append_getElem (by simp; omega), List.take_set_of_le (Nat.le_refl _), hcurt, htk.1, byteCells_append, esc_plain c hsp]
                    simp [Lib.byteCells]
              | true =>
                obtain ⟨g, cq, h1', h2'⟩ := HE.out.2.2.2.special c hsp
                have h1 := keep _ _ h1'
                have hx4 := esc_sp c hsp
                obtain ⟨cs, hcs⟩ : ∃ cs, cs = Lib.byteCells (escB c) := ⟨_, rfl⟩
                have hcsl : cs.length = xlen c := by rw [hcs, Lib.byteCells_length]; rfl
                have hn : cs.length = Nat.min (xlen c) (E.length - J) := by rw [hcsl]; show _ = min _ _; omega
                have hpos : 0 < cs.length → (some (⟨wo.heap.size, J, none⟩ : Addr) = some ⟨wo.heap.size, J, none⟩ ∧ ∃ ad, (some (⟨g, 0, none⟩ : Addr)) = some ad ∧ ∀ j v, cs[j]? = some v → wr.cell? (ad.add j) = some v) := by
                  intro _
                  refine ⟨rfl, _, rfl, fun j v hv => ?_⟩
                  have hj : j < cs.length := (List.getElem?_eq_some_iff.1 hv).1
                  have e1 := addr_add g j
                  rw [e1, keep _ _ (h2' j (by omega)), ← hv, hcs]
                  unfold Lib.byteCells
                  have hj' : j < (escB c).length := by rw [hcs, Lib.byteCells_length] at hj; exact hj
                  simp [List.getD_eq_getElem?_getD, hj']
                have hfits : J + cs.length ≤ cur.length := by omega
                have hone : ∀ v ∈ cs, v.oneCell' = true := by
                  rw [hcs]; intro v hv; unfold Lib.byteCells at hv
                  obtain ⟨b, _, rfl⟩ := List.mem_map.1 hv; rfl
                have HT := Lib.hid (And.intro htk (And.intro hJ' (And.intro hJJ (And.intro hcurl (And.intro hcurt (And.intro hcs hcsl))))))
                have HU := Lib.hid (And.intro hn (And.intro hpos (And.intro hfits (And.intro hone (And.intro hcur hb)))))
                have hJle : J ≤ E.length := by omega
                have hJne : ¬ E.length = J := by omega
                have hJlt : (J : Int) < (E.length : Int) := by omega
                clear htk hts hJ' hJJ hcurl hcurt keep hcur hxc hb hn hpos hfits hone hcs hcsl h1' h2'
                generalize xlen c = X at *
                go_wp2_with fail
                go_region_law (refine step_copy_splice rfl (.tmp 105) (.tmp 111) 205 205 rfl 5 Tryz.underlying205 (by kernel_rfl) (some ⟨wo.heap.size, J, none⟩) (some ⟨g, 0, none⟩) (E.length - J) (E.length - J) X cq (by simp [Act.eval]) (by simp [Act.eval]) wo.heap.size J cur 5 (by exact HU.out.2.2.2.2.1) cs HU.out.1 (fun h => ⟨rfl, (HU.out.2.1 h).2⟩) HU.out.2.2.1 HU.out.2.2.2.1 w.heap.size w (HU.out.2.2.2.2.2.drew) hw0 ?_; intro w4 hg4 hb4)
                have HW4 := Lib.hid (And.intro hg4 hb4); clear hg4 hb4
                have hcsl' : cs.length = X := HT.out.2.2.2.2.2.2
                go_wp2
                go_roundg (s.size - (i + 1))
                case measure => have := HG2.out.1; omega
                case rel =>
                  obtain ⟨htk, hJ', hJJ, hcurl, hcurt, hcs, hcsl⟩ := HT.out
                  refine ⟨HW4.out.2, i + 1, by omega, rfl, by go_num, by rw [hJ', hJJ]; go_num, ?_⟩
                  rw [hJ', hJJ]
                  refine ⟨splice cur J cs, HW4.out.1.out, by rw [length_splice _ _ _ (by omega), hcurl], ?_⟩
                  unfold splice
                  rw [← List.append_assoc, List.take_left' (by rw [List.length_append, List.length_take]; omega), hcurt, htk.1, byteCells_append, hcs]
            · obtain rfl : i = s.size := by omega
              have hEt : escL (List.take s.size s.data.toList) = E := by rw [List.take_of_length_le (by rw [size_list]; omega), HE.out.1]
              rw [hEt] at hbuf ⊢
              obtain ⟨cur, hcur, hcurl, hcurt⟩ := hbuf
              rw [List.take_length, ← hcurl, List.take_length] at hcurt
              have hconv := run_convert_bytes_back (P := Tryz.prog) wr 205 9 5 ⟨wo.heap.size, 0, none⟩ E.length E Tryz.underlying205 Tryz.underlying5 Tryz.underlying9 (by
                intro j hj
                rw [addr_add]
                unfold World.cell?
                simp only [hcur]
                rw [hcurt]
                simp [Lib.byteCells, hj])
              clear keep hcur hcurl hcurt hb hEt
              go_wp2_with fail
              go_ret
              exact ⟨rfl, HG2.out.2.1⟩
  · have hAd : decide ((64 : Int) ≤ s.size) = false := by simp; omega
    go_enter Tryz.func389, Tryz.ntmps389
    go_wp2_with fail
    clear hk
    go_loopg [5, 6, 10] s.size (fun g n an iv wr => Below w.heap.size w wr ∧ ∃ k : Nat, k ≤ s.size ∧ g = s.size - k ∧ iv = .int .i64 k ∧ n = .int .i64 ((s.size : Int) + ((escL (s.data.toList.take k)).length : Int) - (k : Int)) ∧ an = .bool ((s.data.toList.take k).any isSp))
    case atStart => exact ⟨Below.refl _ _, 0, by omega, rfl, rfl, by simp [escL], rfl⟩
    case round =>
      obtain ⟨hb, k, hk8, hg, rfl, rfl, rfl⟩ := hrel
      have HG := Lib.hid (And.intro hg hb); clear hg
      by_cases hlt : k < s.size
      · have keep : ∀ (a : Addr) (v : Value), w.cell? a = some v → wr.cell? a = some v := fun a v ha => (hb.cell (p := a) (World.block_lt_of_cell? w a ha)).trans ha
        have hxc : s.data.toList.getD k 0 = s[k]'hlt := by
          have h' : k < s.data.toList.length := hlt
          rw [List.getD_eq_getElem?_getD, List.getElem?_eq_getElem h']; rfl
        have hts := escL_take_succ s.data.toList k hlt
        have hta := any_take_succ s.data.toList k hlt
        have hle1 := escL_le (s.data.toList.take k)
        rw [List.length_take, size_list] at hle1
        have hge1 := escL_ge (s.data.toList.take k)
        rw [List.length_take, size_list] at hge1
        rw [hxc] at hts hta
        obtain ⟨c, hcx⟩ : ∃ c, s[k]'hlt = c := ⟨_, rfl⟩
        rw [hcx] at hts hta
        have hc256 : (c.toNat : Int) < 256 := by have := c.toNat_lt; omega
        have hJJ : (escL (s.data.toList.take (k + 1))).length = (escL (s.data.toList.take k)).length + xlen c := by rw [hts, List.length_append]; rfl
        generalize (escL (s.data.toList.take k)).length = J at hJJ hle1 hge1 ⊢
        generalize (s.data.toList.take k).any isSp = AN at hta ⊢
        have HT := Lib.hid (And.intro hJJ hta)
        have hJ6 : J ≤ 6 * s.size := by omega
        have hJk : k ≤ J := by omega
        cases hsp : isSp c with
        | false =>
          have h1 := keep _ _ (HE.out.2.2.2.plain c hsp)
          have hx1 := xlen_plain c hsp
          rw [hx1] at HT
          clear keep hb hts hta hJJ hx1 hle1 hge1 hxc
          go_wp2_with fail
          go_roundg (s.size - (k + 1))
          case measure => have := HG.out.1; omega
          case rel => exact ⟨HG.out.2, k + 1, by omega, rfl, by go_num, by rw [HT.out.1]; show Value.int _ _ = Value.int _ _; congr 1; omega, by rw [HT.out.2, hsp, Bool.or_false]⟩
        | true =>
          obtain ⟨g, cq, h1', h2'⟩ := HE.out.2.2.2.special c hsp
          have h1 := keep _ _ h1'
          have hx4 := esc_sp c hsp
          clear keep hb hts hta hJJ hle1 hge1 hxc h1' h2'
          generalize xlen c = X at *
          go_wp2_with fail
          go_roundg (s.size - (k + 1))
          case measure => have := HG.out.1; omega
          case rel => exact ⟨HG.out.2, k + 1, by omega, rfl, by go_num, by rw [HT.out.1]; show Value.int _ _ = Value.int _ _; congr 1; omega, by rw [HT.out.2, hsp, Bool.or_true]⟩
      · obtain rfl : k = s.size := by omega
        have hEt : escL (List.take s.size s.data.toList) = E := by rw [List.take_of_length_le (by rw [size_list]; omega), HE.out.1]
        have hn : (s.size : Int) + (E.length : Int) - (s.size : Int) = (E.length : Int) := by omega
        have htk : List.take s.size s.data.toList = s.data.toList := List.take_of_length_le (by rw [size_list]; omega)
        rw [hEt, hn, htk]
        clear hEt hn htk
        cases hany : s.data.toList.any isSp with
        | false =>
          have hEs : E = s.data.toList := by rw [HE.out.1]; exact escL_none _ hany
          clear hany
          go_wp2_with fail
          go_ret
          exact ⟨ret_str (by rw [hEs]), HG.out.2⟩
        | true =>
          clear hany
          obtain ⟨wo, rfl⟩ : ∃ wo : World, wo = wr := ⟨_, rfl⟩
          obtain ⟨cur0, w1, hmk, hbuf0, hcl0, hb1⟩ := make_bytes E.length wo (by omega)
          go_wp2_with fail
          clear hmk
          go_loopg [13, 14] s.size (fun g jv iv wx => Below w.heap.size w wx ∧ ∃ i : Nat, i ≤ s.size ∧ g = s.size - i ∧ iv = .int .i64 i ∧ jv = .int .i64 (escL (s.data.toList.take i)).length ∧ BufAt wx wo.heap.size E (escL (s.data.toList.take i)).length)
          case atStart => exact ⟨HG.out.2.trans (hb1.mono HG.out.2.size), 0, Nat.zero_le _, rfl, rfl, rfl, cur0, hbuf0, hcl0, rfl⟩
          case round =>
            obtain ⟨hb, i, hi, hg, rfl, rfl, hbuf⟩ := hrel
            have HG2 := Lib.hid (And.intro hg (And.intro hb hbuf)); clear hg
            have keep : ∀ (a : Addr) (v : Value), w.cell? a = some v → wr.cell? a = some v := fun a v ha => (hb.cell (p := a) (World.block_lt_of_cell? w a ha)).trans ha
            by_cases hlt : i < s.size
            · have hxc : s.data.toList.getD i 0 = s[i]'hlt := by
                have h' : i < s.data.toList.length := hlt
                rw [List.getD_eq_getElem?_getD, List.getElem?_eq_getElem h']; rfl
              have htk := take_esc HE.out.1 (i := i) hlt
              have hts := escL_take_succ s.data.toList i hlt
              rw [hxc] at htk hts
              obtain ⟨c, hcx⟩ : ∃ c, s[i]'hlt = c := ⟨_, rfl⟩
              rw [hcx] at htk hts
              have hc256 : (c.toNat : Int) < 256 := by have := c.toNat_lt; omega
              obtain ⟨J', hJ'⟩ : ∃ J', (escL (s.data.toList.take (i + 1))).length = J' := ⟨_, rfl⟩
              have hJJ : J' = (escL (s.data.toList.take i)).length + xlen c := by rw [← hJ', hts, List.length_append]; rfl
              generalize (escL (s.data.toList.take i)).length = J at htk hJJ hbuf HG2 ⊢
              obtain ⟨cur, hcur, hcurl, hcurt⟩ := hbuf
              have hw0 := HG.out.2.size
              have hfit := htk.2
              cases hsp : isSp c with
              | false =>
                have h1 := keep _ _ (HE.out.2.2.2.plain c hsp)
                have hx1 := xlen_plain c hsp
                have hcell : ∃ x0, wr.cell? ⟨wo.heap.size, J, none⟩ = some x0 := ⟨cur[J]'(by omega), by
                  unfold World.cell?; simp only [hcur]; simp⟩
                have hfz : wr.frozen? ⟨wo.heap.size, J, none⟩ = false := by unfold World.frozen?; simp only [hcur]; simp
                have hset := heap_setCell_same wr wo.heap.size J cur.toArray 5 (.int .u8 c.toNat) hcur
                have HT := Lib.hid (And.intro htk (And.intro hJ' (And.intro hJJ (And.intro hcurl (And.intro hcurt (And.intro hset hx1))))))
                rw [hx1] at hfit
                obtain ⟨x0, hcell⟩ := hcell
                clear htk hts hJ' hJJ hcurl hcurt hset keep hcur hxc hx1 hb
                go_wp2_with fail
                go_roundg (s.size - (i + 1))
                case measure => have := HG2.out.1; omega
                case rel =>
                  obtain ⟨htk, hJ', hJJ, hcurl, hcurt, hset, hx1⟩ := HT.out
                  rw [hx1] at hJJ htk
                  subst hJJ
                  refine ⟨HG2.out.2.1.setCell (p := ⟨wo.heap.size, J, none⟩) hw0 _, i + 1, by omega, rfl, by go_num, by rw [hJ']; go_num, ?_⟩
                  rw [hJ']
                  refine ⟨cur.set J (.int .u8 c.toNat), ?_, by simpa using hcurl, ?_⟩
                  · rw [hset]; simp
                  · rw [List.take_succ_eq_append_getElem (by simp; omega), List.take_set_of_le (Nat.le_refl _), hcurt, htk.1, byteCells_append, esc_plain c hsp]
                    simp [Lib.byteCells]
              | true =>
                obtain ⟨g, cq, h1', h2'⟩ := HE.out.2.2.2.special c hsp
                have h1 := keep _ _ h1'
                have hx4 := esc_sp c hsp
                obtain ⟨cs, hcs⟩ : ∃ cs, cs = Lib.byteCells (escB c) := ⟨_, rfl⟩
                have hcsl : cs.length = xlen c := by rw [hcs, Lib.byteCells_length]; rfl
                have hn : cs.length = Nat.min (xlen c) (E.length - J) := by rw [hcsl]; show _ = min _ _; omega
                have hpos : 0 < cs.length → (some (⟨wo.heap.size, J, none⟩ : Addr) = some ⟨wo.heap.size, J, none⟩ ∧ ∃ ad, (some (⟨g, 0, none⟩ : Addr)) = some ad ∧ ∀ j v, cs[j]? = some v → wr.cell? (ad.add j) = some v) := by
                  intro _
                  refine ⟨rfl, _, rfl, fun j v hv => ?_⟩
                  have hj : j < cs.length := (List.getElem?_eq_some_iff.1 hv).1
                  have e1 := addr_add g j
                  rw [e1, keep _ _ (h2' j (by omega)), ← hv, hcs]
                  unfold Lib.byteCells
                  have hj' : j < (escB c).length := by rw [hcs, Lib.byteCells_length] at hj; exact hj
                  simp [List.getD_eq_getElem?_getD, hj']
                have hfits : J + cs.length ≤ cur.length := by omega
                have hone : ∀ v ∈ cs, v.oneCell' = true := by
                  rw [hcs]; intro v hv; unfold Lib.byteCells at hv
                  obtain ⟨b, _, rfl⟩ := List.mem_map.1 hv; rfl
                have HT := Lib.hid (And.intro htk (And.intro hJ' (And.intro hJJ (And.intro hcurl (And.intro hcurt (And.intro hcs hcsl))))))
                have HU := Lib.hid (And.intro hn (And.intro hpos (And.intro hfits (And.intro hone (And.intro hcur hb)))))
                have hJle : J ≤ E.length := by omega
                have hJne : ¬ E.length = J := by omega
                have hJlt : (J : Int) < (E.length : Int) := by omega
                clear htk hts hJ' hJJ hcurl hcurt keep hcur hxc hb hn hpos hfits hone hcs hcsl h1' h2'
                generalize xlen c = X at *
                go_wp2_with fail
                go_region_law (refine step_copy_splice rfl (.tmp 105) (.tmp 111) 205 205 rfl 5 Tryz.underlying205 (by kernel_rfl) (some ⟨wo.heap.size, J, none⟩) (some ⟨g, 0, none⟩) (E.length - J) (E.length - J) X cq (by simp [Act.eval]) (by simp [Act.eval]) wo.heap.size J cur 5 (by exact HU.out.2.2.2.2.1) cs HU.out.1 (fun h => ⟨rfl, (HU.out.2.1 h).2⟩) HU.out.2.2.1 HU.out.2.2.2.1 w.heap.size w (HU.out.2.2.2.2.2.drew) hw0 ?_; intro w4 hg4 hb4)
                have HW4 := Lib.hid (And.intro hg4 hb4); clear hg4 hb4
                have hcsl' : cs.length = X := HT.out.2.2.2.2.2.2
                go_wp2
                go_roundg (s.size - (i + 1))
                case measure => have := HG2.out.1; omega
                case rel =>
                  obtain ⟨htk, hJ', hJJ, hcurl, hcurt, hcs, hcsl⟩ := HT.out
                  refine ⟨HW4.out.2, i + 1, by omega, rfl, by go_num, by rw [hJ', hJJ]; go_num, ?_⟩
                  rw [hJ', hJJ]
                  refine ⟨splice cur J cs, HW4.out.1.out, by rw [length_splice _ _ _ (by omega), hcurl], ?_⟩
                  unfold splice
                  rw [← List.append_assoc, List.take_left' (by rw [List.length_append, List.length_take]; omega), hcurt, htk.1, byteCells_append, hcs]
            · obtain rfl : i = s.size := by omega
              have hEt : escL (List.take s.size s.data.toList) = E := by rw [List.take_of_length_le (by rw [size_list]; omega), HE.out.1]
              rw [hEt] at hbuf ⊢
              obtain ⟨cur, hcur, hcurl, hcurt⟩ := hbuf
              rw [List.take_length, ← hcurl, List.take_length] at hcurt
              have hconv := run_convert_bytes_back (P := Tryz.prog) wr 205 9 5 ⟨wo.heap.size, 0, none⟩ E.length E Tryz.underlying205 Tryz.underlying5 Tryz.underlying9 (by
                intro j hj
                rw [addr_add]
                unfold World.cell?
                simp only [hcur]
                rw [hcurt]
                simp [Lib.byteCells, hj])
              clear keep hcur hcurl hcurt hb hEt
              go_wp2_with fail
              go_ret
              exact ⟨rfl, HG2.out.2.1⟩
end Go.Proofs.YtkgdchbflocblaaGreatDoor
