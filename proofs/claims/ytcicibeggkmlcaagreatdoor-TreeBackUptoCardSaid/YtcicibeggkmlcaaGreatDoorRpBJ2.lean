/- The walk of the byte replacer's Replace over the escape table. Conditions: the table lies in memory; the text has at most 2^31 bytes. The walk of the replacer's build over the escape pairs. Conditions: the pairs lie in memory as Escape hands them over. -/
import Derived.Test.YtcicibeggkmlcaaGreatDoorChGJ2
import Derived.Test.YtcicibeggkmlcaaGreatDoorPlAJ2
import Derived.Laws.CopyOwn
import Derived.Laws.MakeOwn
import Derived.Deep.DeepCutAuto
namespace Go.Proofs.YtcicibeggkmlcaaGreatDoor
open Go.RowKit Go.Sof

/-- the escape table, in memory: block tb holds 256 slices of bytes and the list of the keys. -/
structure RepAt (w : World) (tb : Nat) : Prop where
  plain : ∀ c : UInt8, isSp c = false → w.cell? ⟨tb, c.toNat, none⟩ = some (.slice none 0 0)
  special : ∀ c : UInt8, isSp c = true → ∃ g cp, w.cell? ⟨tb, c.toNat, none⟩ = some (.slice (some ⟨g, 0, none⟩) (xlen c) cp) ∧ ∀ j, j < xlen c → w.cell? ⟨g, j, none⟩ = some (.int .u8 ((escB c).getD j 0).toNat)
  keys : ∃ tr cp, w.cell? ⟨tb, 256, none⟩ = some (.slice (some ⟨tr, 0, none⟩) 8 cp) ∧ ∀ j, j < 8 → w.cell? ⟨tr, j, none⟩ = some (.string ⟨#[keyAt j]⟩)

theorem RepAt.below {w w' : World} {tb : Nat} (h : RepAt w tb) (hb : Below w.heap.size w w') : RepAt w' tb := by
  have key : ∀ (a : Addr) (v : Value), w.cell? a = some v → w'.cell? a = some v := fun a v ha => (hb.cell (p := a) (World.block_lt_of_cell? w a ha)).trans ha
  refine ⟨fun c hc => key _ _ (h.plain c hc), fun c hc => ?_, ?_⟩
  · obtain ⟨g, cp, h1, h2⟩ := h.special c hc
    exact ⟨g, cp, key _ _ h1, fun j hj => key _ _ (h2 j hj)⟩
  · obtain ⟨tr, cp, h1, h2⟩ := h.keys
    exact ⟨tr, cp, key _ _ h1, fun j hj => key _ _ (h2 j hj)⟩

theorem count_c (s : ByteArray) (c : UInt8) (w : World) : Calls Tryz.prog 201 #[.string s, .string ⟨#[c]⟩] w fun e w' => e = .returned (.int .i64 (s.data.toList.count c)) ∧ w = w' :=
  (Tryz.strings_Count_one s c w).mono fun _ _ ⟨he, hw⟩ => ⟨he, hw.symm⟩

theorem A_info5 : (Tryz.prog.info? 5).map (fun i => (i.zero, i.size, i.bytes)) = some (some (.int .u8 0), 1, 1) := by kernel_rfl

/-- 'make([]byte, n)'. -/
theorem make_bytes (n : Nat) (w : World) (hn : n ≤ 281474976710656) : ∃ cur w1, (Instr.makeSlice 32 (.int .i64 (n : Int)) (.int .i64 (n : Int))).run Tryz.prog w = .ok (.slice (some ⟨w.heap.size, 0, none⟩) n n) w1 ∧
    w1.heap[w.heap.size]? = some (.cells (List.toArray cur) 5 (0, 0)) ∧ cur.length = n ∧ Below w.heap.size w w1 := by
  obtain ⟨i0, hi, hz0, hz1, hz2⟩ := info_parts A_info5
  have hr := run_make (P := Tryz.prog) w 32 5 i0 (.int .u8 0) Tryz.underlying32 hi hz0 .i64 .i64 n n (by omega) (Int.le_refl _) (by rw [hz2]; omega) (by omega)
  simp only [Int.toNat_natCast] at hr
  refine ⟨(madeCells (Value.cells (.int .u8 0)) (n * i0.size)).toList, _, hr, ?_, ?_, (Below.refl _ w).alloc (Nat.le_refl _) _⟩
  · rw [heap_alloc_new]
  · rw [Array.length_toList, size_madeCells, hz1, Nat.mul_one]

/-- what lies in the buffer: the first j bytes of E. -/
def BufAt (wr : World) (bf : Nat) (E : Bytes) (j : Nat) : Prop := ∃ cur : List Value, wr.heap[bf]? = some (.cells cur.toArray 5 (0, 0)) ∧ cur.length = E.length ∧ cur.take j = Lib.byteCells (E.take j)

theorem byteCells_append (a b : Bytes) : Lib.byteCells (a ++ b) = Lib.byteCells a ++ Lib.byteCells b := by unfold Lib.byteCells; rw [List.map_append]

theorem addr_add (g j : Nat) : (⟨g, 0, none⟩ : Addr).add j = ⟨g, j, none⟩ := by unfold Addr.add; split <;> simp_all

theorem take_esc {L E : Bytes} (hE : E = escL L) {i : Nat} (h : i < L.length) : E.take ((escL (L.take i)).length + xlen (L.getD i 0)) = E.take (escL (L.take i)).length ++ escB (L.getD i 0) ∧ (escL (L.take i)).length + xlen (L.getD i 0) ≤ E.length := by
  have e1 : E = escL (L.take i) ++ (escB (L.getD i 0) ++ escL (L.drop (i + 1))) := by
    rw [hE, ← List.append_assoc, ← escL_take_succ L i h, ← escL_append, List.take_append_drop]
  refine ⟨?_, ?_⟩
  · rw [e1, List.take_left, ← List.append_assoc]
    unfold xlen
    rw [← List.length_append, List.take_left]
  · rw [e1, List.length_append, List.length_append]; unfold xlen; omega
set_option maxRecDepth 100000 in
set_option maxHeartbeats 4000000 in
theorem rep_c (s : ByteArray) (w : World) (tb : Nat) (hR : RepAt w tb) (hs : s.size ≤ 2147483648) :
    Calls Tryz.prog 199 #[.pointer (some ⟨tb, 0, none⟩), .string s] w fun e w' => e = .returned (.string ⟨(escL s.data.toList).toArray⟩) ∧ Below w.heap.size w w' := by
  obtain ⟨E, hE⟩ : ∃ E, E = escL s.data.toList := ⟨_, rfl⟩
  rw [← hE]
  have hlenE : E.length = s.size + gr s.data.toList 8 := by rw [hE, escL_len, size_list]
  have hleE := escL_le s.data.toList
  rw [← hE, size_list] at hleE
  obtain ⟨tr, cp, hk, hkeys⟩ := hR.keys
  have HE := Lib.hid (And.intro hE (And.intro hlenE (And.intro hkeys hR))); clear hE hlenE hkeys hR
  by_cases hA : 64 ≤ s.size
  · have hAd : decide ((64 : Int) ≤ s.size) = true := by simp; omega
    go_enter Tryz.func199, Tryz.ntmps199
    go_wp2_with fail
    clear hk
    go_loopg [5, 6, 32] 8 (fun g n an i wr => Below w.heap.size w wr ∧ ∃ k : Nat, k ≤ 8 ∧ g = 8 - k ∧ i = .int .i64 k ∧ n = .int .i64 (s.size + gr s.data.toList k) ∧ an = .bool (anyK s.data.toList k))
    case atStart => exact ⟨Below.refl _ _, 0, by omega, rfl, rfl, by go_num, rfl⟩
    case round =>
      obtain ⟨hb, k, hk8, hg, rfl, rfl, rfl⟩ := hrel
      have HG := Lib.hid (And.intro hg hb); clear hg
      have keep : ∀ (a : Addr) (v : Value), w.cell? a = some v → wr.cell? a = some v := fun a v ha => (hb.cell (p := a) (World.block_lt_of_cell? w a ha)).trans ha
      by_cases hlt : k < 8
      · have hx := keep _ _ (HE.out.2.2.1 k hlt)
        obtain ⟨g, cq, h1', h2⟩ := HE.out.2.2.2.special (keyAt k) (key_sp k hlt)
        have h1 := keep _ _ h1'
        clear keep h1' hb
        have hgs : gr s.data.toList (k + 1) = gr s.data.toList k + s.data.toList.count (keyAt k) * (xlen (keyAt k) - 1) := rfl
        have has : anyK s.data.toList (k + 1) = (anyK s.data.toList k || (s.data.toList.count (keyAt k) != 0)) := rfl
        have hxl := esc_sp _ (key_sp k hlt)
        have hcl : s.data.toList.count (keyAt k) ≤ s.size := List.count_le_length
        have hgl := gr_le s.data.toList k (by omega)
        have hcc := count_c s (keyAt k) wr
        have hgl2 : gr s.data.toList k ≤ 6 * s.size := by have := HE.out.2.1; omega
        clear hgl
        generalize xlen (keyAt k) = X at *
        generalize keyAt k = q at *
        generalize gr s.data.toList k = G at *
        generalize s.data.toList.count q = C at *
        generalize anyK s.data.toList k = AK at *
        have HS := Lib.hid (And.intro hgs has); clear hgs has h2
        have hcX : C * (X - 1) ≤ 5 * s.size := Nat.le_trans (Nat.mul_le_mul hcl (show X - 1 ≤ 5 from by omega)) (by omega)
        have HC := Lib.hid hcc; clear hcc
        by_cases hC : C = 0
        · subst hC
          go_wp2_with (first | (go_at_call 201; refine HC.out.mono ?_; rintro e w' ⟨rfl, rfl⟩))
          go_roundg (8 - (k + 1))
          case measure => have := HG.out.1; omega
          case rel => exact ⟨HG.out.2, k + 1, by omega, rfl, by go_num, by rw [HS.out.1]; simp, by rw [HS.out.2]; simp⟩
        · have hCb : ((C : Int) != 0) = true := by simpa using hC
          have hq : (q.toNat : Int) < 256 := by have := q.toNat_lt; omega
          have eX : ((X - 1 : Nat) : Int) = (X : Int) - 1 := by omega
          have hcXi : (C : Int) * ((X : Int) - 1) ≤ 5 * s.size := by rw [← eX, ← Int.natCast_mul]; omega
          have hcX0 : 0 ≤ (C : Int) * ((X : Int) - 1) := by rw [← eX, ← Int.natCast_mul]; omega
          clear eX
          go_wp2_with (first | (go_at_call 201; refine HC.out.mono ?_; rintro e w' ⟨rfl, rfl⟩))
          have w1 : IntKind.i64.wrap ((X : Int) - 1) = (X : Int) - 1 := IntWalk.i64_in _ (by omega)
          have w2 : IntKind.i64.wrap ((C : Int) * ((X : Int) - 1)) = (C : Int) * ((X : Int) - 1) := IntWalk.i64_in _ (by omega)
          have w3 : IntKind.i64.wrap ((s.size : Int) + (G : Int) + (C : Int) * ((X : Int) - 1)) = (s.size : Int) + (G : Int) + (C : Int) * ((X : Int) - 1) := IntWalk.i64_in _ (by omega)
          have hq0 : ∀ h, (⟨#[q]⟩ : ByteArray)[0]'h = q := fun _ => rfl
          go_quiet (fail)
          clear w1 w2 w3 hq0
          go_wp2
          go_roundg (8 - (k + 1))
          case measure => have := HG.out.1; omega
          case rel => exact ⟨HG.out.2.trans ⟨rfl, rfl, rfl, Nat.le_refl _, fun _ _ => rfl⟩, k + 1, by omega, rfl, by go_num, by rw [HS.out.1]; show Value.int _ _ = Value.int _ _; congr 1; rw [Int.natCast_add, Int.natCast_mul, show ((X - 1 : Nat) : Int) = (X : Int) - 1 from by omega]; omega, by rw [HS.out.2]; simp [hC]⟩
      · obtain rfl : k = 8 := by omega
        have hn : (s.size : Int) + (gr s.data.toList 8 : Int) = (E.length : Int) := by rw [HE.out.2.1]; omega
        rw [hn, anyK_sp]
        clear hn
        cases hany : s.data.toList.any isSp with
        | false =>
          have hEs : E = s.data.toList := by rw [HE.out.1]; exact escL_none _ hany
          clear hany
          go_wp2_with fail
          go_ret
          exact ⟨ret_str (by rw [hEs]), HG.out.2⟩
        | true =>
          clear hany
          obtain ⟨wo, rfl⟩ : ∃ wo : World, wo = wr := ⟨_, rfl⟩
          obtain ⟨cur0, w1, hmk, hbuf0, hcl0, hb1⟩ := make_bytes E.length wo (by omega)
          go_wp2_with fail
          clear hmk
          go_loopg [13, 14] s.size (fun g jv iv wx => Below w.heap.size w wx ∧ ∃ i : Nat, i ≤ s.size ∧ g = s.size - i ∧ iv = .int .i64 i ∧ jv = .int .i64 (escL (s.data.toList.take i)).length ∧ BufAt wx wo.heap.size E (escL (s.data.toList.take i)).length)
          case atStart => exact ⟨HG.out.2.trans (hb1.mono HG.out.2.size), 0, Nat.zero_le _, rfl, rfl, rfl, cur0, hbuf0, hcl0, rfl⟩
          case round =>
            obtain ⟨hb, i, hi, hg, rfl, rfl, hbuf⟩ := hrel
            have HG2 := Lib.hid (And.intro hg (And.intro hb hbuf)); clear hg
            have keep : ∀ (a : Addr) (v : Value), w.cell? a = some v → wr.cell? a = some v := fun a v ha => (hb.cell (p := a) (World.block_lt_of_cell? w a ha)).trans ha
            by_cases hlt : i < s.size
            · have hxc : s.data.toList.getD i 0 = s[i]'hlt := by
                have h' : i < s.data.toList.length := hlt
                rw [List.getD_eq_getElem?_getD, List.getElem?_eq_getElem h']; rfl
              have htk := take_esc HE.out.1 (i := i) hlt
              have hts := escL_take_succ s.data.toList i hlt
              rw [hxc] at htk hts
              obtain ⟨c, hcx⟩ : ∃ c, s[i]'hlt = c := ⟨_, rfl⟩
              rw [hcx] at htk hts
              have hc256 : (c.toNat : Int) < 256 := by have := c.toNat_lt; omega
              obtain ⟨J', hJ'⟩ : ∃ J', (escL (s.data.toList.take (i + 1))).length = J' := ⟨_, rfl⟩
              have hJJ : J' = (escL (s.data.toList.take i)).length + xlen c := by rw [← hJ', hts, List.length_append]; rfl
              generalize (escL (s.data.toList.take i)).length = J at htk hJJ hbuf HG2 ⊢
              obtain ⟨cur, hcur, hcurl, hcurt⟩ := hbuf
              have hw0 := HG.out.2.size
              have hfit := htk.2
              cases hsp : isSp c with
              | false =>
                have h1 := keep _ _ (HE.out.2.2.2.plain c hsp)
                have hx1 := xlen_plain c hsp
                have hcell : ∃ x0, wr.cell? ⟨wo.heap.size, J, none⟩ = some x0 := ⟨cur[J]'(by omega), by
                  unfold World.cell?; simp only [hcur]; simp⟩
                have hfz : wr.frozen? ⟨wo.heap.size, J, none⟩ = false := by unfold World.frozen?; simp only [hcur]; simp
                have hset := heap_setCell_same wr wo.heap.size J cur.toArray 5 (.int .u8 c.toNat) hcur
                have HT := Lib.hid (And.intro htk (And.intro hJ' (And.intro hJJ (And.intro hcurl (And.intro hcurt (And.intro hset hx1))))))
                rw [hx1] at hfit
                obtain ⟨x0, hcell⟩ := hcell
                clear htk hts hJ' hJJ hcurl hcurt hset keep hcur hxc hx1 hb
                go_wp2_with fail
                go_roundg (s.size - (i + 1))
                case measure => have := HG2.out.1; omega
                case rel =>
                  obtain ⟨htk, hJ', hJJ, hcurl, hcurt, hset, hx1⟩ := HT.out
                  rw [hx1] at hJJ htk
                  subst hJJ
                  refine ⟨HG2.out.2.1.setCell (p := ⟨wo.heap.size, J, none⟩) hw0 _, i + 1, by omega, rfl, by go_num, by rw [hJ']; go_num, ?_⟩
                  rw [hJ']
                  refine ⟨cur.set J (.int .u8 c.toNat), ?_, by simpa using hcurl, ?_⟩
                  · rw [hset]; simp
                  · rw [List.take_succ_eq_append_getElem (by simp; omega), List.take_set_of_le (Nat.le_refl _), hcurt, htk.1, byteCells_append, esc_plain c hsp]
                    simp [Lib.byteCells]
              | true =>
                obtain ⟨g, cq, h1', h2'⟩ := HE.out.2.2.2.special c hsp
                have h1 := keep _ _ h1'
                have hx4 := esc_sp c hsp
                obtain ⟨cs, hcs⟩ : ∃ cs, cs = Lib.byteCells (escB c) := ⟨_, rfl⟩
                have hcsl : cs.length = xlen c := by rw [hcs, Lib.byteCells_length]; rfl
                have hn : cs.length = Nat.min (xlen c) (E.length - J) := by rw [hcsl]; show _ = min _ _; omega
                have hpos : 0 < cs.length → (some (⟨wo.heap.size, J, none⟩ : Addr) = some ⟨wo.heap.size, J, none⟩ ∧ ∃ ad, (some (⟨g, 0, none⟩ : Addr)) = some ad ∧ ∀ j v, cs[j]? = some v → wr.cell? (ad.add j) = some v) := by
                  intro _
                  refine ⟨rfl, _, rfl, fun j v hv => ?_⟩
                  have hj : j < cs.length := (List.getElem?_eq_some_iff.1 hv).1
                  have e1 := addr_add g j
                  rw [e1, keep _ _ (h2' j (by omega)), ← hv, hcs]
                  unfold Lib.byteCells
                  have hj' : j < (escB c).length := by rw [hcs, Lib.byteCells_length] at hj; exact hj
                  simp [List.getD_eq_getElem?_getD, hj']
                have hfits : J + cs.length ≤ cur.length := by omega
                have hone : ∀ v ∈ cs, v.oneCell' = true := by
                  rw [hcs]; intro v hv; unfold Lib.byteCells at hv
                  obtain ⟨b, _, rfl⟩ := List.mem_map.1 hv; rfl
                have HT := Lib.hid (And.intro htk (And.intro hJ' (And.intro hJJ (And.intro hcurl (And.intro hcurt (And.intro hcs hcsl))))))
                have HU := Lib.hid (And.intro hn (And.intro hpos (And.intro hfits (And.intro hone (And.intro hcur hb)))))
                have hJle : J ≤ E.length := by omega
                have hJne : ¬ E.length = J := by omega
                have hJlt : (J : Int) < (E.length : Int) := by omega
                clear htk hts hJ' hJJ hcurl hcurt keep hcur hxc hb hn hpos hfits hone hcs hcsl h1' h2'
                generalize xlen c = X at *
                go_wp2_with fail
                go_region_law (refine step_copy_splice rfl (.tmp 105) (.tmp 111) 32 32 rfl 5 Tryz.underlying32 (by kernel_rfl) (some ⟨wo.heap.size, J, none⟩) (some ⟨g, 0, none⟩) (E.length - J) (E.length - J) X cq (by simp [Act.eval]) (by simp [Act.eval]) wo.heap.size J cur 5 (by exact HU.out.2.2.2.2.1) cs HU.out.1 (fun h => ⟨rfl, (HU.out.2.1 h).2⟩) HU.out.2.2.1 HU.out.2.2.2.1 w.heap.size w (HU.out.2.2.2.2.2.drew) hw0 ?_; intro w4 hg4 hb4)
                have HW4 := Lib.hid (And.intro hg4 hb4); clear hg4 hb4
                have hcsl' : cs.length = X := HT.out.2.2.2.2.2.2
                go_wp2
                go_roundg (s.size - (i + 1))
                case measure => have := HG2.out.1; omega
                case rel =>
                  obtain ⟨htk, hJ', hJJ, hcurl, hcurt, hcs, hcsl⟩ := HT.out
                  refine ⟨HW4.out.2, i + 1, by omega, rfl, by go_num, by rw [hJ', hJJ]; go_num, ?_⟩
                  rw [hJ', hJJ]
                  refine ⟨splice cur J cs, HW4.out.1.out, by rw [length_splice _ _ _ (by omega), hcurl], ?_⟩
                  unfold splice
                  rw [← List.append_assoc, List.take_left' (by rw [List.length_append, List.length_take]; omega), hcurt, htk.1, byteCells_append, hcs]
            · obtain rfl : i = s.size := by omega
              have hEt : escL (List.take s.size s.data.toList) = E := by rw [List.take_of_length_le (by rw [size_list]; omega), HE.out.1]
              rw [hEt] at hbuf ⊢
              obtain ⟨cur, hcur, hcurl, hcurt⟩ := hbuf
              rw [List.take_length, ← hcurl, List.take_length] at hcurt
              have hconv := run_convert_bytes_back (P := Tryz.prog) wr 32 9 5 ⟨wo.heap.size, 0, none⟩ E.length E Tryz.underlying32 Tryz.underlying5 Tryz.underlying9 (by
                intro j hj
                rw [addr_add]
                unfold World.cell?
                simp only [hcur]
                rw [hcurt]
                simp [Lib.byteCells, hj])
              clear keep hcur hcurl hcurt hb hEt
              go_wp2_with fail
              go_ret
              exact ⟨rfl, HG2.out.2.1⟩
  · have hAd : decide ((64 : Int) ≤ s.size) = false := by simp; omega
    go_enter Tryz.func199, Tryz.ntmps199
    go_wp2_with fail
    clear hk
    go_loopg [5, 6, 10] s.size (fun g n an iv wr => Below w.heap.size w wr ∧ ∃ k : Nat, k ≤ s.size ∧ g = s.size - k ∧ iv = .int .i64 k ∧ n = .int .i64 ((s.size : Int) + ((escL (s.data.toList.take k)).length : Int) - (k : Int)) ∧ an = .bool ((s.data.toList.take k).any isSp))
    case atStart => exact ⟨Below.refl _ _, 0, by omega, rfl, rfl, by simp [escL], rfl⟩
    case round =>
      obtain ⟨hb, k, hk8, hg, rfl, rfl, rfl⟩ := hrel
      have HG := Lib.hid (And.intro hg hb); clear hg
      by_cases hlt : k < s.size
      · have keep : ∀ (a : Addr) (v : Value), w.cell? a = some v → wr.cell? a = some v := fun a v ha => (hb.cell (p := a) (World.block_lt_of_cell? w a ha)).trans ha
        have hxc : s.data.toList.getD k 0 = s[k]'hlt := by
          have h' : k < s.data.toList.length := hlt
          rw [List.getD_eq_getElem?_getD, List.getElem?_eq_getElem h']; rfl
        have hts := escL_take_succ s.data.toList k hlt
        have hta := any_take_succ s.data.toList k hlt
        have hle1 := escL_le (s.data.toList.take k)
        rw [List.length_take, size_list] at hle1
        have hge1 := escL_ge (s.data.toList.take k)
        rw [List.length_take, size_list] at hge1
        rw [hxc] at hts hta
        obtain ⟨c, hcx⟩ : ∃ c, s[k]'hlt = c := ⟨_, rfl⟩
        rw [hcx] at hts hta
        have hc256 : (c.toNat : Int) < 256 := by have := c.toNat_lt; omega
        have hJJ : (escL (s.data.toList.take (k + 1))).length = (escL (s.data.toList.take k)).length + xlen c := by rw [hts, List.length_append]; rfl
        generalize (escL (s.data.toList.take k)).length = J at hJJ hle1 hge1 ⊢
        generalize (s.data.toList.take k).any isSp = AN at hta ⊢
        have HT := Lib.hid (And.intro hJJ hta)
        have hJ6 : J ≤ 6 * s.size := by omega
        have hJk : k ≤ J := by omega
        cases hsp : isSp c with
        | false =>
          have h1 := keep _ _ (HE.out.2.2.2.plain c hsp)
          have hx1 := xlen_plain c hsp
          rw [hx1] at HT
          clear keep hb hts hta hJJ hx1 hle1 hge1 hxc
          go_wp2_with fail
          go_roundg (s.size - (k + 1))
          case measure => have := HG.out.1; omega
          case rel => exact ⟨HG.out.2, k + 1, by omega, rfl, by go_num, by rw [HT.out.1]; show Value.int _ _ = Value.int _ _; congr 1; omega, by rw [HT.out.2, hsp, Bool.or_false]⟩
        | true =>
          obtain ⟨g, cq, h1', h2'⟩ := HE.out.2.2.2.special c hsp
          have h1 := keep _ _ h1'
          have hx4 := esc_sp c hsp
          clear keep hb hts hta hJJ hle1 hge1 hxc h1' h2'
          generalize xlen c = X at *
          go_wp2_with fail
          go_roundg (s.size - (k + 1))
          case measure => have := HG.out.1; omega
          case rel => exact ⟨HG.out.2, k + 1, by omega, rfl, by go_num, by rw [HT.out.1]; show Value.int _ _ = Value.int _ _; congr 1; omega, by rw [HT.out.2, hsp, Bool.or_true]⟩
      · obtain rfl : k = s.size := by omega
        have hEt : escL (List.take s.size s.data.toList) = E := by rw [List.take_of_length_le (by rw [size_list]; omega), HE.out.1]
        have hn : (s.size : Int) + (E.length : Int) - (s.size : Int) = (E.length : Int) := by omega
        have htk : List.take s.size s.data.toList = s.data.toList := List.take_of_length_le (by rw [size_list]; omega)
        rw [hEt, hn, htk]
        clear hEt hn htk
        cases hany : s.data.toList.any isSp with
        | false =>
          have hEs : E = s.data.toList := by rw [HE.out.1]; exact escL_none _ hany
          clear hany
          go_wp2_with fail
          go_ret
          exact ⟨ret_str (by rw [hEs]), HG.out.2⟩
        | true =>
          clear hany
          obtain ⟨wo, rfl⟩ : ∃ wo : World, wo = wr := ⟨_, rfl⟩
          obtain ⟨cur0, w1, hmk, hbuf0, hcl0, hb1⟩ := make_bytes E.length wo (by omega)
          go_wp2_with fail
          clear hmk
          go_loopg [13, 14] s.size (fun g jv iv wx => Below w.heap.size w wx ∧ ∃ i : Nat, i ≤ s.size ∧ g = s.size - i ∧ iv = .int .i64 i ∧ jv = .int .i64 (escL (s.data.toList.take i)).length ∧ BufAt wx wo.heap.size E (escL (s.data.toList.take i)).length)
          case atStart => exact ⟨HG.out.2.trans (hb1.mono HG.out.2.size), 0, Nat.zero_le _, rfl, rfl, rfl, cur0, hbuf0, hcl0, rfl⟩
          case round =>
            obtain ⟨hb, i, hi, hg, rfl, rfl, hbuf⟩ := hrel
            have HG2 := Lib.hid (And.intro hg (And.intro hb hbuf)); clear hg
            have keep : ∀ (a : Addr) (v : Value), w.cell? a = some v → wr.cell? a = some v := fun a v ha => (hb.cell (p := a) (World.block_lt_of_cell? w a ha)).trans ha
            by_cases hlt : i < s.size
            · have hxc : s.data.toList.getD i 0 = s[i]'hlt := by
                have h' : i < s.data.toList.length := hlt
                rw [List.getD_eq_getElem?_getD, List.getElem?_eq_getElem h']; rfl
              have htk := take_esc HE.out.1 (i := i) hlt
              have hts := escL_take_succ s.data.toList i hlt
              rw [hxc] at htk hts
              obtain ⟨c, hcx⟩ : ∃ c, s[i]'hlt = c := ⟨_, rfl⟩
              rw [hcx] at htk hts
              have hc256 : (c.toNat : Int) < 256 := by have := c.toNat_lt; omega
              obtain ⟨J', hJ'⟩ : ∃ J', (escL (s.data.toList.take (i + 1))).length = J' := ⟨_, rfl⟩
              have hJJ : J' = (escL (s.data.toList.take i)).length + xlen c := by rw [← hJ', hts, List.length_append]; rfl
              generalize (escL (s.data.toList.take i)).length = J at htk hJJ hbuf HG2 ⊢
              obtain ⟨cur, hcur, hcurl, hcurt⟩ := hbuf
              have hw0 := HG.out.2.size
              have hfit := htk.2
              cases hsp : isSp c with
              | false =>
                have h1 := keep _ _ (HE.out.2.2.2.plain c hsp)
                have hx1 := xlen_plain c hsp
                have hcell : ∃ x0, wr.cell? ⟨wo.heap.size, J, none⟩ = some x0 := ⟨cur[J]'(by omega), by
                  unfold World.cell?; simp only [hcur]; simp⟩
                have hfz : wr.frozen? ⟨wo.heap.size, J, none⟩ = false := by unfold World.frozen?; simp only [hcur]; simp
                have hset := heap_setCell_same wr wo.heap.size J cur.toArray 5 (.int .u8 c.toNat) hcur
                have HT := Lib.hid (And.intro htk (And.intro hJ' (And.intro hJJ (And.intro hcurl (And.intro hcurt (And.intro hset hx1))))))
                rw [hx1] at hfit
                obtain ⟨x0, hcell⟩ := hcell
                clear htk hts hJ' hJJ hcurl hcurt hset keep hcur hxc hx1 hb
                go_wp2_with fail
                go_roundg (s.size - (i + 1))
                case measure => have := HG2.out.1; omega
                case rel =>
                  obtain ⟨htk, hJ', hJJ, hcurl, hcurt, hset, hx1⟩ := HT.out
                  rw [hx1] at hJJ htk
                  subst hJJ
                  refine ⟨HG2.out.2.1.setCell (p := ⟨wo.heap.size, J, none⟩) hw0 _, i + 1, by omega, rfl, by go_num, by rw [hJ']; go_num, ?_⟩
                  rw [hJ']
                  refine ⟨cur.set J (.int .u8 c.toNat), ?_, by simpa using hcurl, ?_⟩
                  · rw [hset]; simp
                  · rw [List.take_succ_eq_append_getElem (by simp; omega), List.take_set_of_le (Nat.le_refl _), hcurt, htk.1, byteCells_append, esc_plain c hsp]
                    simp [Lib.byteCells]
              | true =>
                obtain ⟨g, cq, h1', h2'⟩ := HE.out.2.2.2.special c hsp
                have h1 := keep _ _ h1'
                have hx4 := esc_sp c hsp
                obtain ⟨cs, hcs⟩ : ∃ cs, cs = Lib.byteCells (escB c) := ⟨_, rfl⟩
                have hcsl : cs.length = xlen c := by rw [hcs, Lib.byteCells_length]; rfl
                have hn : cs.length = Nat.min (xlen c) (E.length - J) := by rw [hcsl]; show _ = min _ _; omega
                have hpos : 0 < cs.length → (some (⟨wo.heap.size, J, none⟩ : Addr) = some ⟨wo.heap.size, J, none⟩ ∧ ∃ ad, (some (⟨g, 0, none⟩ : Addr)) = some ad ∧ ∀ j v, cs[j]? = some v → wr.cell? (ad.add j) = some v) := by
                  intro _
                  refine ⟨rfl, _, rfl, fun j v hv => ?_⟩
                  have hj : j < cs.length := (List.getElem?_eq_some_iff.1 hv).1
                  have e1 := addr_add g j
                  rw [e1, keep _ _ (h2' j (by omega)), ← hv, hcs]
                  unfold Lib.byteCells
                  have hj' : j < (escB c).length := by rw [hcs, Lib.byteCells_length] at hj; exact hj
                  simp [List.getD_eq_getElem?_getD, hj']
                have hfits : J + cs.length ≤ cur.length := by omega
                have hone : ∀ v ∈ cs, v.oneCell' = true := by
                  rw [hcs]; intro v hv; unfold Lib.byteCells at hv
                  obtain ⟨b, _, rfl⟩ := List.mem_map.1 hv; rfl
                have HT := Lib.hid (And.intro htk (And.intro hJ' (And.intro hJJ (And.intro hcurl (And.intro hcurt (And.intro hcs hcsl))))))
                have HU := Lib.hid (And.intro hn (And.intro hpos (And.intro hfits (And.intro hone (And.intro hcur hb)))))
                have hJle : J ≤ E.length := by omega
                have hJne : ¬ E.length = J := by omega
                have hJlt : (J : Int) < (E.length : Int) := by omega
                clear htk hts hJ' hJJ hcurl hcurt keep hcur hxc hb hn hpos hfits hone hcs hcsl h1' h2'
                generalize xlen c = X at *
                go_wp2_with fail
                go_region_law (refine step_copy_splice rfl (.tmp 105) (.tmp 111) 32 32 rfl 5 Tryz.underlying32 (by kernel_rfl) (some ⟨wo.heap.size, J, none⟩) (some ⟨g, 0, none⟩) (E.length - J) (E.length - J) X cq (by simp [Act.eval]) (by simp [Act.eval]) wo.heap.size J cur 5 (by exact HU.out.2.2.2.2.1) cs HU.out.1 (fun h => ⟨rfl, (HU.out.2.1 h).2⟩) HU.out.2.2.1 HU.out.2.2.2.1 w.heap.size w (HU.out.2.2.2.2.2.drew) hw0 ?_; intro w4 hg4 hb4)
                have HW4 := Lib.hid (And.intro hg4 hb4); clear hg4 hb4
                have hcsl' : cs.length = X := HT.out.2.2.2.2.2.2
                go_wp2
                go_roundg (s.size - (i + 1))
                case measure => have := HG2.out.1; omega
                case rel =>
                  obtain ⟨htk, hJ', hJJ, hcurl, hcurt, hcs, hcsl⟩ := HT.out
                  refine ⟨HW4.out.2, i + 1, by omega, rfl, by go_num, by rw [hJ', hJJ]; go_num, ?_⟩
                  rw [hJ', hJJ]
                  refine ⟨splice cur J cs, HW4.out.1.out, by rw [length_splice _ _ _ (by omega), hcurl], ?_⟩
                  unfold splice
                  rw [← List.append_assoc, List.take_left' (by rw [List.length_append, List.length_take]; omega), hcurt, htk.1, byteCells_append, hcs]
            · obtain rfl : i = s.size := by omega
              have hEt : escL (List.take s.size s.data.toList) = E := by rw [List.take_of_length_le (by rw [size_list]; omega), HE.out.1]
              rw [hEt] at hbuf ⊢
              obtain ⟨cur, hcur, hcurl, hcurt⟩ := hbuf
              rw [List.take_length, ← hcurl, List.take_length] at hcurt
              have hconv := run_convert_bytes_back (P := Tryz.prog) wr 32 9 5 ⟨wo.heap.size, 0, none⟩ E.length E Tryz.underlying32 Tryz.underlying5 Tryz.underlying9 (by
                intro j hj
                rw [addr_add]
                unfold World.cell?
                simp only [hcur]
                rw [hcurt]
                simp [Lib.byteCells, hj])
              clear keep hcur hcurl hcurt hb hEt
              go_wp2_with fail
              go_ret
              exact ⟨rfl, HG2.out.2.1⟩
end Go.Proofs.YtcicibeggkmlcaaGreatDoor

namespace Go.Proofs.YtcicibeggkmlcaaGreatDoor
open Go.RowKit Go.Sof

/-- the pairs, in Escape's order. -/
def onAt (j : Nat) : Bytes := if j % 2 = 0 then [keyAt (7 - j / 2)] else escB (keyAt (7 - j / 2))
theorem on_even (k : Nat) : onAt (2 * k) = [keyAt (7 - k)] := by unfold onAt; rw [if_pos (by omega), show 2 * k / 2 = k from by omega]
theorem on_odd (k : Nat) : onAt (2 * k + 1) = escB (keyAt (7 - k)) := by unfold onAt; rw [if_neg (by omega), show (2 * k + 1) / 2 = k from by omega]

theorem A_infoS : (Tryz.prog.info? 9).map (fun i => (i.zero, i.size, i.bytes)) = some (some (.string ⟨#[]⟩), 1, 16) := by kernel_rfl
/-- 'make([]string, 0, 8)'. -/
theorem make_eight (w : World) : ∃ w1, (Instr.makeSlice 99 (.int .i64 0) (.int .i64 8)).run Tryz.prog w = .ok (.slice (some ⟨w.heap.size, 0, none⟩) 0 8) w1 ∧
    w1.ownsRow w.heap.size 9 1 (.slice (some ⟨w.heap.size, 0, none⟩) 0 8) 0 [] ∧ Below w.heap.size w w1 ∧ w1.heap.size = w.heap.size + 1 := by
  obtain ⟨i0, hi, hz0, hz1, hz2⟩ := info_parts A_infoS
  have hr := run_make (P := Tryz.prog) w 99 9 i0 (.string ⟨#[]⟩) Tryz.underlying99 hi hz0 .i64 .i64 0 8 (by omega) (by omega) (by rw [hz2]; omega) (by omega)
  refine ⟨_, hr, World.ownsRow_made w _ 8 (Nat.le_refl _) (by unfold maxLen; omega) ?_, (Below.refl _ w).alloc (Nat.le_refl _) _, by simp⟩
  rw [size_madeCells, hz1]; rfl

theorem zero_rep : Tryz.zeroCells161.toList = List.replicate 257 (.slice none 0 0) := by kernel_rfl

/-- the new table, its list of keys stored. -/
theorem store_rep (w1 : World) (n : Nat) (hn : n = w1.heap.size) (v : Value) (hv : v.oneCell' = true) : ∃ cur w2, (storeCells ⟨n, 0, none⟩ (Tryz.zeroCells161.toList.set 256 v)).run Tryz.prog (w1.alloc (.cells Tryz.zeroCells161 161)) = .ok () w2 ∧
    w2.heap[n]? = some (.cells cur 161 (0, 0)) ∧ cur.size = 257 ∧ (∀ c, c < 256 → cur[c]? = some (.slice none 0 0)) ∧ cur[256]? = some v ∧ Below w1.heap.size w1 w2 ∧ w2.heap.size = n + 1 := by
  subst hn
  have hl : (Tryz.zeroCells161.toList.set 256 v).length = 257 := by rw [List.length_set, zero_rep, List.length_replicate]
  have hz : Tryz.zeroCells161.size = 257 := by rw [← Array.length_toList, zero_rep, List.length_replicate]
  have h0 := heap_alloc_new w1 (.cells Tryz.zeroCells161 161)
  have hst := run_storeCells_at Tryz.prog w1.heap.size 0 161 (Tryz.zeroCells161.toList.set 256 v) 0 _ (w1.alloc (.cells Tryz.zeroCells161 161)) h0 (by rw [hl, hz]; omega) (by
    intro u hu
    rcases List.mem_or_eq_of_mem_set hu with h | h
    · rw [zero_rep] at h
      rw [List.eq_of_mem_replicate h]; rfl
    · rw [h]; exact hv)
  simp only [Nat.add_zero, Nat.zero_add, List.take_zero, List.nil_append] at hst
  rw [List.drop_of_length_le (by rw [hl, Array.length_toList, hz]; omega), List.append_nil] at hst
  refine ⟨_, _, hst, setRow_heap _ _ _ _ _ _ h0, by simp [hz], ?_, ?_, below_setRow ((Below.refl _ w1).alloc (Nat.le_refl _) _) (Nat.le_refl _) _, by simp [World.setRow]⟩
  · intro c hc
    rw [List.getElem?_toArray, List.getElem?_set_ne (by omega), zero_rep, List.getElem?_replicate, if_pos (by omega)]
  · rw [List.getElem?_toArray, List.getElem?_set_self (by rw [zero_rep, List.length_replicate]; omega)]

/-- the table as it is being filled: m keys are in. -/
structure RepM (B : Nat) (w : World) (tb m : Nat) : Prop where
  tab : ∃ cur v, w.heap[tb]? = some (.cells cur 161 (0, 0)) ∧ cur.size = 257 ∧
    (∀ c : UInt8, (∀ i, i < m → keyAt i ≠ c) → cur[c.toNat]? = some (.slice none 0 0)) ∧
    (∀ i, i < m → ∃ g cp row fz, cur[(keyAt i).toNat]? = some (.slice (some ⟨g, 0, none⟩) (xlen (keyAt i)) cp) ∧ w.heap[g]? = some (.cells row 5 fz) ∧ ∀ j, j < xlen (keyAt i) → row[j]? = some (.int .u8 ((escB (keyAt i)).getD j 0).toNat)) ∧
    cur[256]? = some v ∧ w.ownsRow B 9 1 v m ((List.range m).map fun i => .string ⟨#[keyAt i]⟩) ∧ v ≠ .slice none 0 0
  low : B ≤ tb

theorem key_ne : ∀ i j, i < 8 → j < 8 → i ≠ j → keyAt i ≠ keyAt j := by
  have : ∀ i j : Fin 8, i ≠ j → keyAt i.val ≠ keyAt j.val := by decide +kernel
  intro i j hi hj h
  exact this ⟨i, hi⟩ ⟨j, hj⟩ (by simpa using h)
theorem sp_key_fin : ∀ x : Fin 256, isSp (UInt8.ofNat x.val) = true → ∃ i : Fin 8, UInt8.ofNat x.val = keyAt i.val := by decide +kernel
theorem sp_key (c : UInt8) (h : isSp c = true) : ∃ i, i < 8 ∧ c = keyAt i := by
  have := sp_key_fin ⟨c.toNat, c.toNat_lt⟩; simp only [UInt8.ofNat_toNat] at this
  obtain ⟨i, hi⟩ := this h
  exact ⟨i.val, i.isLt, hi⟩
theorem key_small : ∀ i, i < 8 → (keyAt i).toNat < 256 := fun i _ => (keyAt i).toNat_lt

/-- '[]byte(s)': the row that is laid. -/
theorem conv_row (s : ByteArray) (w : World) : ∃ cap row fz w1, (convert 9 32 (.string s)).run Tryz.prog w = .ok (.slice (some ⟨w.heap.size, 0, none⟩) s.size cap) w1 ∧
    w1.heap[w.heap.size]? = some (.cells row 5 fz) ∧ (∀ j, j < s.size → row[j]? = some (.int .u8 (s.data.toList.getD j 0).toNat)) ∧ Below w.heap.size w w1 ∧ w1.heap.size = w.heap.size + 1 :=
  ⟨_, _, _, _, Lib.run_convert_string_bytes (P := Tryz.prog) w 9 32 5 s Tryz.underlying9 Tryz.underlying32 Tryz.underlying5, Lib.bytesWorld_at_new w _ s,
    fun j hj => by
      have h := Lib.bytesWorld_cell w 5 s j hj
      unfold World.cell? at h; rw [Lib.bytesWorld_at_new] at h; exact h,
    ⟨rfl, rfl, rfl, by rw [Lib.bytesWorld_size]; omega, fun k hk => Lib.bytesWorld_at_old w _ s k hk⟩, Lib.bytesWorld_size w _ s⟩

theorem ownsRow_form {w : World} {B e n : Nat} {v : Value} {xs : List Value} (h : w.ownsRow B e 1 v n xs) (hv : v ≠ .slice none 0 0) : ∃ g cap cur, v = .slice (some ⟨g, 0, none⟩) n cap ∧ w.heap[g]? = some (.cells cur e (0, 0)) := by
  rcases h.2 with ⟨h, _⟩ | ⟨g, cap, cur, h, _, h2, _⟩
  · exact absurd h hv
  · exact ⟨g, cap, cur, h, h2⟩

/-- one key more: the steps of a round, in the heap. -/
theorem RepM.next {B : Nat} {wr w3 w5 : World} {tb m : Nat} (hM : RepM B wr tb m) (hm : m < 8) {v' : Value} {gv' cv' cap5 : Nat} {row5 : Array Value} {fz5 : Nat × Nat}
    (h3 : ∀ k, k < wr.heap.size → (∀ c fz, wr.heap[k]? ≠ some (.cells c 9 fz)) → w3.heap[k]? = wr.heap[k]?) (h3s : wr.heap.size ≤ w3.heap.size)
    (hv' : v' = .slice (some ⟨gv', 0, none⟩) (m + 1) cv') (hown' : w3.ownsRow B 9 1 v' (m + 1) ((List.range (m + 1)).map fun i => .string ⟨#[keyAt i]⟩))
    (hb5 : Below w3.heap.size (w3.setCell ⟨tb, 256, none⟩ v') w5) (hr5 : w5.heap[w3.heap.size]? = some (.cells row5 5 fz5)) (hrow5 : ∀ j, j < xlen (keyAt m) → row5[j]? = some (.int .u8 ((escB (keyAt m)).getD j 0).toNat)) :
    RepM B (w5.setCell ⟨tb, (keyAt m).toNat, none⟩ (.slice (some ⟨w3.heap.size, 0, none⟩) (xlen (keyAt m)) cap5)) tb (m + 1) := by
  obtain ⟨⟨cur, v, hcur, hcs, hnil, hsome, hv, hown, hvn⟩, hlow⟩ := hM
  have htb : tb < wr.heap.size := (Array.getElem?_eq_some_iff.1 hcur).1
  have h3tb : w3.heap[tb]? = some (.cells cur 161 (0, 0)) := by
    rw [h3 tb htb (fun c fz e => by rw [hcur] at e; simp at e), hcur]
  have h4tb := heap_setCell_same w3 tb 256 cur 161 v' h3tb
  have h5tb : w5.heap[tb]? = some (.cells (cur.setIfInBounds 256 v') 161 (0, 0)) := (hb5.block tb (by omega)).trans h4tb
  have h6tb := heap_setCell_same w5 tb (keyAt m).toNat _ 161 (.slice (some ⟨w3.heap.size, 0, none⟩) (xlen (keyAt m)) cap5) h5tb
  have hks := key_small m hm
  obtain ⟨gq, cq, rq, hvq, hgq⟩ := ownsRow_form hown' (by rw [hv']; simp)
  have hgeq : gq = gv' := by rw [hv'] at hvq; simp at hvq; exact hvq.1.symm
  have hgne : gv' ≠ tb := by
    intro e; rw [hgeq, e, h3tb] at hgq; simp at hgq
  have hglt : gv' < w3.heap.size := by rw [hgeq] at hgq; exact (Array.getElem?_eq_some_iff.1 hgq).1
  refine ⟨⟨_, v', h6tb, by simp [hcs], ?_, ?_, ?_, ?_, by rw [hv']; simp⟩, hlow⟩
  · intro c hc
    have hne : (keyAt m).toNat ≠ c.toNat := fun e => hc m (by omega) (UInt8.toNat_inj.1 e)
    have hc256 := c.toNat_lt
    rw [Array.getElem?_setIfInBounds_ne hne, Array.getElem?_setIfInBounds_ne (by omega)]
    exact hnil c fun i hi => hc i (by omega)
  · intro i hi
    by_cases him : i = m
    · subst him
      refine ⟨w3.heap.size, cap5, row5, fz5, ?_, ?_, hrow5⟩
      · rw [Array.getElem?_setIfInBounds_self_of_lt (by simp [hcs]; omega)]
      · rw [heap_setCell_other _ _ _ _ (by show _ ≠ tb; omega)]; exact hr5
    · obtain ⟨g, cp, row, fz, hg1, hg2, hg3⟩ := hsome i (by omega)
      have hne : (keyAt m).toNat ≠ (keyAt i).toNat := fun e => key_ne m i hm (by omega) (fun e => him e.symm) (UInt8.toNat_inj.1 e)
      have hk256 := key_small i (by omega)
      have hgtb : g ≠ tb := by intro e; rw [e, hcur] at hg2; simp at hg2
      have hglt' : g < wr.heap.size := (Array.getElem?_eq_some_iff.1 hg2).1
      refine ⟨g, cp, row, fz, ?_, ?_, hg3⟩
      · rw [Array.getElem?_setIfInBounds_ne hne, Array.getElem?_setIfInBounds_ne (by omega)]; exact hg1
      · rw [heap_setCell_other _ _ _ _ hgtb, hb5.block g (by omega), heap_setCell_other _ _ _ _ hgtb, h3 g hglt' (fun c fz' e => by rw [hg2] at e; simp at e), hg2]
  · rw [Array.getElem?_setIfInBounds_ne (by omega), Array.getElem?_setIfInBounds_self_of_lt (by rw [hcs]; omega)]
  · have k1 : (w3.setCell ⟨tb, 256, none⟩ v').ownsRow B 9 1 v' (m + 1) ((List.range (m + 1)).map fun i => .string ⟨#[keyAt i]⟩) :=
      hown'.kept (row := some tb) ⟨rfl, rfl, rfl, by simp [World.setCell], fun k _ hk => heap_setCell_other _ _ _ _ (fun e => hk (by rw [e]))⟩ (Or.inr (by rw [hv']; simpa [Value.ownBlock] using hgne))
    have k2 : w5.ownsRow B 9 1 v' (m + 1) ((List.range (m + 1)).map fun i => .string ⟨#[keyAt i]⟩) := by
      refine ⟨k1.1, ?_⟩
      rcases k1.2 with hn | ⟨g, cap, c, hvv, hBg, hgg, rest⟩
      · exact .inl hn
      · refine .inr ⟨g, cap, c, hvv, hBg, (hb5.block g ?_).trans hgg, rest⟩
        have := (Array.getElem?_eq_some_iff.1 hgg).1
        simpa using this
    exact k2.kept (row := some tb) ⟨rfl, rfl, rfl, by simp [World.setCell], fun k _ hk => heap_setCell_other _ _ _ _ (fun e => hk (by rw [e]))⟩ (Or.inr (by rw [hv']; simpa [Value.ownBlock] using hgne))

/-- all keys are in: the table. -/
theorem RepM.full {B : Nat} {w : World} {tb : Nat} (h : RepM B w tb 8) : RepAt w tb := by
  obtain ⟨⟨cur, v, hcur, hcs, hnil, hsome, hv, hown, hvn⟩, _⟩ := h
  have cell : ∀ j u, cur[j]? = some u → w.cell? ⟨tb, j, none⟩ = some u := by
    intro j u hj; unfold World.cell?; simp only [hcur]; exact hj
  refine ⟨fun c hc => cell _ _ (hnil c fun i hi e => ?_), fun c hc => ?_, ?_⟩
  · rw [← e, key_sp i hi] at hc; cases hc
  · obtain ⟨i, hi, rfl⟩ := sp_key c hc
    obtain ⟨g, cp, row, fz, h1, h2, h3⟩ := hsome i hi
    refine ⟨g, cp, cell _ _ h1, fun j hj => ?_⟩
    unfold World.cell?; simp only [h2]; exact h3 j hj
  · obtain ⟨gv, cv, row, rfl, hrow⟩ := ownsRow_form hown hvn
    refine ⟨gv, cv, cell _ _ hv, fun j hj => ?_⟩
    have := hown.cells (g := gv) rfl j (.string ⟨#[keyAt j]⟩) (by simp [hj])
    rw [addr_add] at this; exact this

set_option maxRecDepth 1000000 in
set_option maxHeartbeats 4000000 in
theorem build_c (b rb cp : Nat) (w : World) (h4 : w.cell? ⟨b, 4, none⟩ = some (.slice (some ⟨rb, 0, none⟩) 16 cp)) (hon : ∀ j, j < 16 → w.cell? ⟨rb, j, none⟩ = some (.string ⟨(onAt j).toArray⟩)) :
    Calls Tryz.prog 95 #[.pointer (some ⟨b, 0, none⟩)] w fun e w' => ∃ tb, e = .returned (.iface 162 (.pointer (some ⟨tb, 0, none⟩))) ∧ Below w.heap.size w w' ∧ RepAt w' tb := by
  have HO := Lib.hid hon; clear hon
  go_enter Tryz.func95, Tryz.ntmps95
  go_wp2_with fail
  go_loopg [4, 5] 8 (fun g a i wr => w = wr ∧ ∃ k : Nat, k ≤ 8 ∧ g = 8 - k ∧ i = .int .i64 (2 * (k : Int)) ∧ a = .bool (decide (k = 0)))
  case atStart => exact ⟨rfl, 0, by omega, rfl, rfl, rfl⟩
  case round =>
    obtain ⟨rfl, k, hk8, hg, rfl, rfl⟩ := hrel
    have HG := Lib.hid hg; clear hg
    by_cases hlt : k < 8
    · have c1 := HO.out (2 * k) (by omega)
      have c2 := HO.out (2 * k + 1) (by omega)
      rw [on_even] at c1
      rw [on_odd] at c2
      have hx := esc_sp _ (key_sp (7 - k) (by omega))
      unfold xlen at hx
      have hsz2 : (ByteArray.mk (escB (keyAt (7 - k))).toArray).size = (escB (keyAt (7 - k))).length := by show (List.toArray _).size = _; simp
      have hsz1 : (ByteArray.mk [keyAt (7 - k)].toArray).size = 1 := rfl
      generalize ByteArray.mk (escB (keyAt (7 - k))).toArray = S2 at c2 hsz2
      generalize ByteArray.mk [keyAt (7 - k)].toArray = S1 at c1 hsz1
      have hne : ¬ (S2.size : Int) = 1 := by omega
      have e2 : (2 * (k : Int)).toNat = 2 * k := by omega
      have e3 : (2 * (k : Int) + 1).toNat = 2 * k + 1 := by omega
      clear hx hsz2
      go_wp2_with fail
      go_roundg (8 - (k + 1))
      case measure => have := HG.out; omega
      case rel => exact ⟨rfl, k + 1, by omega, rfl, by go_num, by simp⟩
    · obtain rfl : k = 8 := by omega
      obtain ⟨w1, hmk, hown, hb1, hz1⟩ := make_eight w
      obtain ⟨cur0, w2, hst, hcur0, hcs0, hnil0, hv0, hb2, hz2⟩ := store_rep w1 (w.heap.size + 1) hz1.symm (.slice (some ⟨w.heap.size, 0, none⟩) 0 8) rfl
      have hM0 : RepM w.heap.size w2 (w.heap.size + 1) 0 := by
        refine ⟨⟨cur0, _, hcur0, hcs0, fun c _ => hnil0 _ c.toNat_lt, fun i hi => by omega, hv0, ?_, by simp⟩, by omega⟩
        refine hown.kept (row := none) ⟨hb2.os, hb2.tape, hb2.output, hb2.size, fun k hk _ => hb2.block k hk⟩ (Or.inr (by simp [Value.ownBlock]))
      have hbw2 : Below w.heap.size w w2 := hb1.trans (hb2.mono (by omega))
      have HM := Lib.hid (And.intro hM0 hbw2)
      clear hM0 hbw2 hcur0 hcs0 hnil0 hv0 hown hb1 hb2
      go_wp2_with fail
      clear hst hmk h4
      go_loopg [12] 8 (fun g i wr => Below w.heap.size w wr ∧ ∃ m : Nat, m ≤ 8 ∧ g = 8 - m ∧ i = .int .i64 (14 - 2 * (m : Int)) ∧ RepM w.heap.size wr (w.heap.size + 1) m)
      case atStart => exact ⟨HM.out.2, 0, by omega, rfl, rfl, HM.out.1⟩
      case round =>
        obtain ⟨hb, m, hm8, hg2, rfl, hM⟩ := hrel
        have keep : ∀ (a : Addr) (v : Value), w.cell? a = some v → wr.cell? a = some v := fun a v ha => (hb.cell (p := a) (World.block_lt_of_cell? w a ha)).trans ha
        by_cases hlt : m < 8
        · obtain ⟨cur, v, hcur, hcs, hnil, hsome, hv, hown, hvn⟩ := hM.tab
          have hvf : ∃ gv cv row, v = .slice (some ⟨gv, 0, none⟩) m cv ∧ wr.heap[gv]? = some (.cells row 9 (0, 0)) := by
            rcases hown.2 with ⟨h, _⟩ | ⟨gv, cv, row, h, _, h2, _⟩
            · exact absurd h hvn
            · exact ⟨gv, cv, row, h, h2⟩
          obtain ⟨gv, cv, row, rfl, hrow⟩ := hvf
          have c1 := keep _ _ (HO.out (2 * (7 - m)) (by omega))
          have c2 := keep _ _ (HO.out (2 * (7 - m) + 1) (by omega))
          rw [on_even, show 7 - (7 - m) = m from by omega] at c1
          rw [on_odd, show 7 - (7 - m) = m from by omega] at c2
          have e2 : (14 - 2 * (m : Int)).toNat = 2 * (7 - m) := by omega
          have e3 : (14 - 2 * (m : Int) + 1).toNat = 2 * (7 - m) + 1 := by omega
          have hq256 : ((keyAt m).toNat : Int) < 256 := by have := (keyAt m).toNat_lt; omega
          have hc0 : wr.cell? ⟨w.heap.size + 1, (keyAt m).toNat, none⟩ = some (.slice none 0 0) := by
            unfold World.cell?; simp only [hcur]
            rw [← hnil (keyAt m) (fun i hi => key_ne i m (by omega) hlt (by omega))]; rfl
          have hc1 : wr.cell? ⟨w.heap.size + 1, 256, none⟩ = some (.slice (some ⟨gv, 0, none⟩) m cv) := by
            unfold World.cell?; simp only [hcur]; rw [← hv]; rfl
          have hszw := hb.size
          have hltb : w.heap.size + 1 < wr.heap.size := (Array.getElem?_eq_some_iff.1 hcur).1
          have HB := Lib.hid (And.intro hg2 (And.intro hb (And.intro hM (And.intro hcur (And.intro hown hrow)))))
          clear hg2 hb hM hcur hcs hnil hsome hv hvn hrow keep
          obtain ⟨N, hN⟩ : ∃ N, N = ByteArray.mk (escB (keyAt m)).toArray := ⟨_, rfl⟩
          rw [← hN] at c2
          have HN := Lib.hid hN; clear hN
          generalize hq : keyAt m = q at *
          have HQ := Lib.hid hq; clear hq
          have HOW := Lib.hid hown; clear hown
          have hq0 : ∀ h, (⟨[q].toArray⟩ : ByteArray)[0]'h = q := fun _ => rfl
          have hq1 : ∀ h, (⟨#[q]⟩ : ByteArray)[0]'h = q := fun _ => rfl
          have hnn : ∀ W, (binOp .eql 32 (.slice none 0 0) (.slice none 0 0)).run Tryz.prog W = .ok (.bool true) W := fun W => Lib.run_eql_slice_nil W 32 5 none 0 0 0 0 Tryz.underlying32
          have hcv : (convert 32 9 (.slice (some ⟨wr.heap.size, 0, none⟩) 1 1)).run Tryz.prog (wr.alloc (.cells #[.int .u8 q.toNat] 5)) = .ok (.string ⟨#[q]⟩) (wr.alloc (.cells #[.int .u8 q.toNat] 5)) := run_convert_bytes_back (P := Tryz.prog) (wr.alloc (.cells #[.int .u8 q.toNat] 5)) 32 9 5 ⟨wr.heap.size, 0, none⟩ 1 [q] Tryz.underlying32 Tryz.underlying5 Tryz.underlying9 (by
            intro j hj
            obtain rfl : j = 0 := by simp at hj; omega
            simp [Addr.add])
          obtain ⟨i0, hi, hz0, hzz, hz2⟩ := info_parts A_infoS
          go_wp2_with (first | (at_builtin; refine wpList_append_own _ rfl (.tmp 119) (.tmp 123) 99 rfl w.heap.size 9 i0 (.string ⟨#[]⟩) 1 16 Tryz.underlying99 hi hz0 hzz hz2 rfl (by decide) _ _ _ rfl ((HOW.out.alloc _).alloc _) ⟨wr.heap.size + 1, 0, none⟩ 1 1 [.string ⟨#[q]⟩] rfl rfl ?c1 ?c2 ?c3 ?c4 ?c5 ?_))
          case c1 => intro j u hj; match j, hj with | 0, hj => simp at hj; subst hj; simp [Addr.add]
          case c2 => intro u hu; simp at hu; subst hu; rfl
          case c3 => unfold maxLen; omega
          case c4 => omega
          case c5 => simp; omega
          intro v' w3 hown' hgrow hnil'
          have hvne : v' ≠ .slice none 0 0 := fun e => hnil' e
          obtain ⟨gv', cv', row', rfl, hrow'⟩ := ownsRow_form hown' hvne
          clear hvne hnil' hcv hrow'
          obtain ⟨hg2, hb, hM, hcur, hown, hrow⟩ := HB.out
          have hgvB : w.heap.size ≤ gv := (hown.lt gv rfl).1
          have hg3 : ∀ k, k < wr.heap.size → (∀ c fz, wr.heap[k]? ≠ some (.cells c 9 fz)) → w3.heap[k]? = wr.heap[k]? := by
            intro k hk hne
            rw [hgrow.block k (by simp; omega) (fun e => by
              have : k = gv := by simpa [Value.ownBlock] using e
              exact hne row (0, 0) (by rw [this]; exact hrow)), Lib.alloc_old _ _ _ (by simp; omega), Lib.alloc_old _ _ _ hk]
          have h3s : wr.heap.size + 2 ≤ w3.heap.size := by have := hgrow.size; simp at this; omega
          have hb3 : Below w.heap.size w w3 := hb.trans ((((Below.refl w.heap.size wr).alloc hszw _).alloc (by simp; omega) _).grown hgrow (by simp; omega) (fun k hk => by simp [Value.ownBlock] at hk; omega))
          have h3tb : w3.heap[w.heap.size + 1]? = some (.cells cur 161 (0, 0)) := by
            rw [hg3 _ hltb (fun c fz e => by rw [hcur] at e; simp at e), hcur]
          have hc3 : w3.cell? ⟨w.heap.size + 1, 256, none⟩ = some (.slice (some ⟨gv, 0, none⟩) m cv) := by rw [← hc1]; unfold World.cell?; simp only [h3tb, hcur]
          have hf3 : w3.frozen? ⟨w.heap.size + 1, 256, none⟩ = false := by unfold World.frozen?; simp only [h3tb]; rfl
          obtain ⟨cap5, row5, fz5, w5, hconv, hr5, hrow5, hb5, hz5⟩ := conv_row N (w3.setCell ⟨w.heap.size + 1, 256, none⟩ (.slice (some ⟨gv', 0, none⟩) (m + 1) cv'))
          rw [World.size_setCell] at hconv hr5 hb5 hz5
          have h4tb := heap_setCell_same w3 (w.heap.size + 1) 256 cur 161 (.slice (some ⟨gv', 0, none⟩) (m + 1) cv') h3tb
          have h5tb := (hb5.block (w.heap.size + 1) (by omega)).trans h4tb
          have hc5 : w5.cell? ⟨w.heap.size + 1, q.toNat, none⟩ = some (.slice none 0 0) := by
            rw [← hc0]; unfold World.cell?; simp only [h5tb, hcur]
            simp only [Option.isSome_none, Bool.false_eq_true, if_false]
            exact Array.getElem?_setIfInBounds_ne (by omega)
          have hf5 : w5.frozen? ⟨w.heap.size + 1, q.toNat, none⟩ = false := by unfold World.frozen?; simp only [h5tb]; simp
          have hNs : N.size = xlen q := by rw [HN.out]; show (List.toArray _).size = _; rw [List.size_toArray]; rfl
          have hNd : N.data.toList = escB q := by rw [HN.out]
          rw [hNs] at hconv hrow5
          rw [hNd] at hrow5
          have hown'' : w3.ownsRow w.heap.size 9 1 (.slice (some ⟨gv', 0, none⟩) (m + 1) cv') (m + 1) ((List.range (m + 1)).map fun i => .string ⟨#[keyAt i]⟩) := by
            rw [List.range_succ, List.map_append]
            simp only [List.map_cons, List.map_nil]
            rw [HQ.out]; exact hown'
          have hNX := RepM.next hM hlt hg3 (by omega) rfl hown'' hb5 hr5 (cap5 := cap5) (by rw [HQ.out]; exact hrow5)
          rw [HQ.out] at hNX
          have hb6 : Below w.heap.size w (w5.setCell ⟨w.heap.size + 1, q.toNat, none⟩ (.slice (some ⟨w3.heap.size, 0, none⟩) (xlen q) cap5)) :=
            ((hb3.setCell (p := ⟨w.heap.size + 1, 256, none⟩) (by show w.heap.size ≤ w.heap.size + 1; omega) _).trans (hb5.mono (by omega))).setCell (p := ⟨w.heap.size + 1, q.toNat, none⟩) (by show w.heap.size ≤ w.heap.size + 1; omega) _
          have HX := Lib.hid (And.intro hNX (And.intro hb6 hg2))
          clear hNX hb6 hg2 hown'' hNd hNs h5tb h4tb hr5 hrow5 hb5 h3tb hb3 hg3 hown' hgrow hcur hown hrow hM hb hq0 hq1 hnn hi hz0 hzz hz2
          go_wp2_with fail
          go_roundg (8 - (m + 1))
          case measure => have := HX.out.2.2; omega
          case rel => exact ⟨HX.out.2.1, m + 1, by omega, rfl, by go_num, HX.out.1⟩
        · obtain rfl : m = 8 := by omega
          have HX := Lib.hid (And.intro hb hM.full)
          clear hM keep hb
          go_wp2_with fail
          go_ret
          exact ⟨w.heap.size + 1, rfl, HX.out.1, HX.out.2⟩
end Go.Proofs.YtcicibeggkmlcaaGreatDoor
