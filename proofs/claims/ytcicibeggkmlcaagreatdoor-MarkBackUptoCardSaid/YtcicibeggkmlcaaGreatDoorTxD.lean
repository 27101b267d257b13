/- The walk of mark.one, where an element begins; mark.one whole. Conditions: as in the text before. -/
import Derived.Test.YtcicibeggkmlcaaGreatDoorTxC
namespace Go.Proofs.YtcicibeggkmlcaaGreatDoor
open Go.RowKit Go.Sof

def addE (K : Int) : Option Bytes → Option Bytes
  | none => none
  | some o => some (o ++ endT K)
theorem attrsT_take_le (al : List PAttr) (k : Nat) : (attrsT (al.take k)).length ≤ (attrsT al).length := by
  have : attrsT al = attrsT (al.take k) ++ attrsT (al.drop k) := by unfold attrsT; rw [← List.flatMap_append, List.take_append_drop]
  rw [this, List.length_append]; omega
theorem attrsT_snoc (al : List PAttr) (k : Nat) (h : k < al.length) : attrsT (al.take (k + 1)) = attrsT (al.take k) ++ attrT (al[k]'h) := by
  rw [List.take_succ_eq_append_getElem h]; unfold attrsT; rw [List.flatMap_append]; simp
theorem endT_one {K : Int} (h : K = 1) : endT K = [62] := by subst h; rfl
theorem cat_attr (O N V : Bytes) : ByteArray.mk O.toArray ++ (ByteArray.mk #[32] ++ ByteArray.mk N.toArray ++ ByteArray.mk #[61, 34] ++ ByteArray.mk V.toArray ++ ByteArray.mk #[34]) = ByteArray.mk (O ++ (32 :: (N ++ 61 :: 34 :: (V ++ [34])))).toArray := by
  apply ByteArray.ext; simp

set_option maxRecDepth 1000000 in
set_option maxHeartbeats 4000000 in
theorem one_o (w : World) (K P : Int) (N : Bytes) (p : Option Addr) (c : Nat) (al : List PAttr) (hw : WOK w) (hK : K = 1 ∨ K = 4) (hb1 : nameB N = true) (hl : N.length ≤ 2097152) (hal : al.length ≤ 2097152) (hat : (attrsT al).length ≤ 16777216) (hv : ∀ a ∈ al, a.value.length ≤ 2097152 ∧ a.name.length ≤ 2097152) (hcap : al.length ≤ c)
    (hf : ∀ (j : Nat) (hj : j < al.length), ∃ b o, p = some ⟨b, o, none⟩ ∧ w.cell? ⟨b, o + j * 2, none⟩ = some (.string ⟨(al[j]'hj).name.toArray⟩) ∧ w.cell? ⟨b, o + j * 2 + 1, none⟩ = some (.string ⟨(al[j]'hj).value.toArray⟩))
    (X : Option Bytes) (hX : oneA [] al (60 :: N) = X) :
    Calls Tryz.prog 54 #[.agg #[.int .i64 K, .int .i64 P, .string ⟨N.toArray⟩, .slice p al.length c, .string ⟨#[]⟩]] w fun en w' => OnePost (addE K X) en ∧ Below w.heap.size w w' := by
  have hc := fun W => name_c ⟨N.toArray⟩ W
  rw [show (ByteArray.mk N.toArray).data.toList = N from rfl, hb1] at hc
  obtain ⟨na, hna⟩ : ∃ na, na = al.length := ⟨_, rfl⟩
  rw [← hna] at hal hcap ⊢
  have HE := Lib.hid (Mk5.new w K P N (.slice p na c) [])
  have HC := Lib.hid hc; clear hc hb1
  have HF := Lib.hid (And.intro hf (And.intro hX (And.intro hna (And.intro hat hv)))); clear hf hX hna hat hv
  have HW := Lib.hid hw; clear hw
  have k3 : (K == 3) = false := by rw [beq_eq_false_iff_ne]; omega
  have k1 : decide (K < 1) = false := decide_eq_false (by omega)
  have k4 : decide (4 < K) = false := decide_eq_false (by omega)
  have k2 : (K == 2) = false := by rw [beq_eq_false_iff_ne]; omega
  have hcI : (na : Int) ≤ (c : Int) := by omega
  go_enter Tryz.func54, Tryz.ntmps54
  go_wp2_with (first | (go_at_call 21; refine (HC.out _).mono ?_; rintro en w2 ⟨rfl, b2⟩; have h2 := HE.out.below b2; have m4 := h2.c4; have m0 := h2.c0; have m3 := h2.c3; have m2 := h2.c2; have H2 := Lib.hid h2; clear h2))
  go_loopg [6, 77] na (fun g o i wr => Below w.heap.size w wr ∧ Mk5 wr w.heap.size K P N (.slice p na c) [] ∧ w.heap.size < wr.heap.size ∧ ∃ k : Nat, k ≤ na ∧ g = na - k ∧ i = .int .i64 k ∧ o = .string ⟨(60 :: N ++ attrsT (al.take k)).toArray⟩ ∧ oneA (al.take k) (al.drop k) (60 :: N ++ attrsT (al.take k)) = X)
  case atStart =>
    refine ⟨((Below.refl _ w).alloc (Nat.le_refl _) _).trans (b2.mono (by simp)), H2.out, (Array.getElem?_eq_some_iff.1 H2.out).1, 0, Nat.zero_le _, rfl, rfl, ?_, ?_⟩
    · congr 1; apply ByteArray.ext; simp [attrsT]
    · rw [List.take_zero, List.drop_zero]; simpa [attrsT] using HF.out.2.1
  case round =>
    obtain ⟨hb, hm5, hsz, k, hk, hg, rfl, rfl, hx⟩ := hrel
    have hOl : (60 :: N ++ attrsT (al.take k)).length ≤ 20971520 := by
      have h1 := attrsT_take_le al k
      have h2 := HF.out.2.2.2.1
      rw [List.length_append, List.length_cons]; omega
    by_cases hlt : k < na
    · have hka : k < al.length := by rw [← HF.out.2.2.1]; exact hlt
      obtain ⟨b, o, rfl, e0, e1⟩ := HF.out.1 k hka
      have hvk := HF.out.2.2.2.2 _ (List.getElem_mem hka)
      have hsn := attrsT_snoc al k hka
      have htk := List.take_succ_eq_append_getElem hka
      rw [List.drop_eq_getElem_cons hka] at hx
      obtain ⟨a, ha⟩ : ∃ a, a = al[k]'hka := ⟨_, rfl⟩
      rw [← ha] at e0 e1 hvk hsn htk hx
      have e0' := cell_keep hb e0
      have e1' := cell_keep hb e1
      have hesc := fun W hW => escape_c ⟨a.value.toArray⟩ W hW (by show (List.toArray a.value).size ≤ _; simp; omega)
      rw [show (ByteArray.mk a.value.toArray).data.toList = a.value from rfl] at hesc
      have hnm := fun W => name_c ⟨a.name.toArray⟩ W
      rw [show (ByteArray.mk a.name.toArray).data.toList = a.name from rfl] at hnm
      have hkI : (k : Int) ≤ (c : Int) := by omega
      have hkI2 : (k : Int) < (na : Int) := by omega
      obtain ⟨O, hO⟩ : ∃ O, O = 60 :: N ++ attrsT (al.take k) := ⟨_, rfl⟩
      rw [← hO] at hx hOl ⊢
      have HB := Lib.hid (And.intro hb (And.intro hm5 hsz)); clear hb hm5
      have HG := Lib.hid (And.intro hg (And.intro hsn (And.intro htk hO))); clear hg hsn htk hO ha
      have hna2 := hvk.2
      have hwr := Lib.hid (show WOK wr from HW.out.below HB.out.1)
      cases hbv : bad a.value with
      | some j =>
        have hX1 : X = none := by rw [← hx]; unfold oneA; rw [if_pos (Or.inl (by rw [hbv]; simp))]
        subst hX1
        rw [show escR a.value = ([], 6) from by unfold escR; rw [if_neg (by rw [hbv]; simp)], show escV ([], 6) = .tuple #[.string ⟨#[]⟩, .int .i64 6] from rfl] at hesc
        have HH := Lib.hid hesc; clear hesc hnm hx hbv hvk
        go_wp2_with (first
          | (go_at_call 23; refine (HH.out _ (hwr.out.below ((Below.refl _ wr).alloc (Nat.le_refl _) _))).mono ?_; rintro en w3 ⟨rfl, b3⟩))
        go_ret2
        exact ⟨⟨_, rfl⟩, HB.out.1.trans (((Below.refl _ wr).alloc (Nat.le_refl _) _).trans (b3.mono (by simp)) |>.mono HB.out.1.size)⟩
      | none =>
        rw [show escR a.value = (escL a.value, 0) from by unfold escR; rw [if_pos hbv], show escV (escL a.value, 0) = .tuple #[.string ⟨(escL a.value).toArray⟩, .int .i64 0] from rfl] at hesc
        have hel := escL_le a.value
        obtain ⟨V, hV⟩ : ∃ V, V = escL a.value := ⟨_, rfl⟩
        rw [← hV] at hesc hel
        cases hnb : nameB a.name with
        | false =>
          have hX1 : X = none := by rw [← hx]; unfold oneA; rw [if_pos (Or.inr (Or.inl hnb))]
          subst hX1
          rw [hnb] at hnm
          have HH := Lib.hid (And.intro hesc hnm); clear hesc hnm hx hbv hvk hnb hV
          go_wp2_with (first
            | (go_at_call 23; refine (HH.out.1 _ (hwr.out.below ((Below.refl _ wr).alloc (Nat.le_refl _) _))).mono ?_; rintro en w3 ⟨rfl, b3⟩; have s0 := ((St2.new wr ⟨a.name.toArray⟩ ⟨a.value.toArray⟩).below b3).c0)
            | (go_at_call 21; refine (HH.out.2 _).mono ?_; rintro en w4 ⟨rfl, b4⟩))
          go_ret2
          exact ⟨⟨_, rfl⟩, HB.out.1.trans (((((Below.refl _ wr).alloc (Nat.le_refl _) _).trans (b3.mono (by simp))).trans (b4.mono (by have := b3.size; simp at this ⊢; omega))).mono HB.out.1.size)⟩
        | true =>
          rw [hnb] at hnm
          have hVl : V.length ≤ 12582912 := by have := hvk.1; omega
          have hct := fun W => cont1_c W wr.heap.size (some ⟨b, o, none⟩) k c al a.name
          have hfA : ∀ W, Below w.heap.size w W → ∀ (j : Nat) (hj : j < al.length), ∃ b' o', (some ⟨b, o, none⟩ : Option Addr) = some ⟨b', o', none⟩ ∧ W.cell? ⟨b', o' + j * 2, none⟩ = some (.string ⟨(al[j]'hj).name.toArray⟩) ∧ W.cell? ⟨b', o' + j * 2 + 1, none⟩ = some (.string ⟨(al[j]'hj).value.toArray⟩) := fun W hW j hj => by
            obtain ⟨b', o', e, h1, h2⟩ := HF.out.1 j hj
            exact ⟨b', o', e, cell_keep hW h1, cell_keep hW h2⟩
          obtain ⟨dup, hdup⟩ : ∃ dup, dup = (al.take k).any (fun x => x.name == a.name) := ⟨_, rfl⟩
          rw [← hdup] at hct
          have hx2 : (if dup = true then none else oneA (al.take (k + 1)) (al.drop (k + 1)) (O ++ attrT a)) = X := by
            rw [← hx, HG.out.2.2.1]
            have e : oneA (al.take k) (a :: al.drop (k + 1)) O = if bad a.value ≠ none ∨ nameB a.name = false ∨ (al.take k).any (fun b => b.name == a.name) = true then none else oneA (al.take k ++ [a]) (al.drop (k + 1)) (O ++ attrT a) := rfl
            rw [e, hbv, hnb, ← hdup]
            cases dup <;> simp
          have HH := Lib.hid (And.intro hesc (And.intro hnm (And.intro hct (And.intro hfA (And.intro hx2 hV))))); clear hesc hnm hx hbv hvk hnb hct hdup hfA hx2 hV
          cases dup with
          | true =>
            have hX1 : X = none := by rw [← HH.out.2.2.2.2.1]; rfl
            subst hX1
            go_wp2_with (first
              | (go_at_call 23; refine (HH.out.1 _ (hwr.out.below ((Below.refl _ wr).alloc (Nat.le_refl _) _))).mono ?_; rintro en w3 ⟨rfl, b3⟩; have s0 := ((St2.new wr ⟨a.name.toArray⟩ ⟨a.value.toArray⟩).below b3).c0)
              | (go_at_call 21; refine (HH.out.2.1 _).mono ?_; rintro en w4 ⟨rfl, b4⟩; have t0 := cell_keep b4 s0; have t3 := ((((HB.out.2.1.below ((Below.refl _ wr).alloc (Nat.le_refl _) _)).below b3)).below b4).c3; have BA := Lib.hid (HB.out.1.trans (((((Below.refl _ wr).alloc (Nat.le_refl _) _).trans (b3.mono (by simp))).trans (b4.mono (by have := b3.size; simp at this ⊢; omega))).mono HB.out.1.size)))
              | (go_at_call 80; refine (HH.out.2.2.1 _ t0 (by have := HF.out.2.2.1; omega) (by have := HF.out.2.2.1; omega) (HH.out.2.2.2.1 _ BA.out)).mono ?_; rintro en w5 ⟨rfl, b5⟩))
            go_ret2
            exact ⟨⟨_, rfl⟩, BA.out.trans (b5.mono BA.out.size)⟩
          | false =>
            have hX1 : oneA (al.take (k + 1)) (al.drop (k + 1)) (O ++ attrT a) = X := HH.out.2.2.2.2.1
            have HX1 := Lib.hid hX1; clear hX1
            go_wp2_with (first
              | (go_at_call 23; refine (HH.out.1 _ (hwr.out.below ((Below.refl _ wr).alloc (Nat.le_refl _) _))).mono ?_; rintro en w3 ⟨rfl, b3⟩; have s0 := ((St2.new wr ⟨a.name.toArray⟩ ⟨a.value.toArray⟩).below b3).c0)
              | (go_at_call 21; refine (HH.out.2.1 _).mono ?_; rintro en w4 ⟨rfl, b4⟩; have t0 := cell_keep b4 s0; have hM4 := (((HB.out.2.1.below ((Below.refl _ wr).alloc (Nat.le_refl _) _)).below b3)).below b4; have t3 := hM4.c3; have M4 := Lib.hid hM4; clear hM4; have BA := Lib.hid (HB.out.1.trans (((((Below.refl _ wr).alloc (Nat.le_refl _) _).trans (b3.mono (by simp))).trans (b4.mono (by have := b3.size; simp at this ⊢; omega))).mono HB.out.1.size)))
              | (go_at_call 80; refine (HH.out.2.2.1 _ t0 (by have := HF.out.2.2.1; omega) (by have := HF.out.2.2.1; omega) (HH.out.2.2.2.1 _ BA.out)).mono ?_; rintro en w5 ⟨rfl, b5⟩; have u0 := cell_keep b5 t0))
            go_roundg (na - (k + 1))
            case measure => have := HG.out.1; omega
            case rel =>
              have e1 : 60 :: N ++ attrsT (al.take (k + 1)) = O ++ attrT a := by rw [HG.out.2.1, HG.out.2.2.2, List.append_assoc]
              refine ⟨BA.out.trans (b5.mono BA.out.size), M4.out.below b5, ?_, k + 1, by omega, rfl, by go_num, ?_, ?_⟩
              · have := (Array.getElem?_eq_some_iff.1 (M4.out.below b5)).1; exact this
              · rw [e1, cat_attr]
                unfold attrT
                rw [HH.out.2.2.2.2.2]
              · rw [e1]; exact HX1.out
    · obtain rfl : k = na := by omega
      have hX1 : some (60 :: N ++ attrsT (al.take k)) = X := by
        rw [← hx, List.drop_of_length_le (by rw [← HF.out.2.2.1]; exact Nat.le_refl _)]; rfl
      subst hX1
      have hkI : decide ((k : Int) < (k : Int)) = false := decide_eq_false (by omega)
      have n0 := hm5.c0
      obtain ⟨O, hO⟩ : ∃ O, O = 60 :: N ++ attrsT (al.take k) := ⟨_, rfl⟩
      rw [← hO] at hOl ⊢
      have HB := Lib.hid hb
      have HOO := Lib.hid hO; clear hb hm5 hx hO
      rcases hK with rfl | rfl
      · have HO := Lib.hid (show OnePost (addE 1 (some O)) (.returned (.tuple #[.string (ByteArray.mk O.toArray ++ ByteArray.mk #[62]), .bool true])) from by
          rw [show ByteArray.mk O.toArray ++ ByteArray.mk #[62] = ByteArray.mk (O ++ [62]).toArray from by apply ByteArray.ext; simp]; rfl)
        go_wp2_with fail
        go_ret2
        rw [← HOO.out]
        exact ⟨HO.out, HB.out⟩
      · have HO := Lib.hid (show OnePost (addE 4 (some O)) (.returned (.tuple #[.string (ByteArray.mk O.toArray ++ ByteArray.mk #[47] ++ ByteArray.mk #[62]), .bool true])) from by
          rw [show ByteArray.mk O.toArray ++ ByteArray.mk #[47] ++ ByteArray.mk #[62] = ByteArray.mk (O ++ [47, 62]).toArray from by apply ByteArray.ext; simp]; rfl)
        go_wp2_with fail
        go_ret2
        rw [← HOO.out]
        exact ⟨HO.out, HB.out⟩
end Go.Proofs.YtcicibeggkmlcaaGreatDoor
