/- The walk of chars.entity at the numbers. Conditions: each theorem's own premises. -/
import Derived.Test.YtcicibeggkmlcaaGreatDoorChE
namespace Go.Proofs.YtcicibeggkmlcaaGreatDoor
open Go.RowKit Go.Sof

set_option maxRecDepth 100000 in
set_option maxHeartbeats 2000000 in
theorem entity_10 (s D H : ByteArray) (w : World) (_hs : s.size ≤ 4611686018427387904) (hH : H.size ≤ s.size) (k1 : (s.toList == [97, 109, 112]) = false) (k2 : (s.toList == [108, 116]) = false) (k3 : (s.toList == [103, 116]) = false)
    (k4 : (s.toList == [113, 117, 111, 116]) = false) (k5 : (s.toList == [97, 112, 111, 115]) = false) (hh : Bool) (E : Option Bytes)
    (cH : ∀ W, Calls Tryz.prog 75 #[.string s, .string ⟨#[35]⟩] W fun e w' => e = .returned (.tuple #[.string D, .bool hh]) ∧ W = w')
    (cX : ∀ W, Calls Tryz.prog 75 #[.string D, .string ⟨#[120]⟩] W fun e w' => e = .returned (.tuple #[.string H, .bool false]) ∧ W = w')
    (hE : E = if hh = false then none else numE 10 H.data.toList) :
    Calls Tryz.prog 50 #[.string s] w fun e w' => e = .returned (entV E) ∧ Below w.heap.size w w' := by
  have HC := Lib.hid (And.intro cH cX)
  clear cH cX
  cases hh with
  | false =>
    rw [if_pos rfl] at hE; subst hE
    rw [show entV none = .tuple #[.string ⟨#[]⟩, .bool false] from rfl]
    go_enter Tryz.func50, Tryz.ntmps50
    go_wp2_with fail
    refine (HC.out.1 _).mono ?_
    rintro e w' ⟨rfl, rfl⟩
    go_wp2_with fail
    refine (HC.out.2 _).mono ?_
    rintro e w' ⟨rfl, rfl⟩
    go_wp2_with fail
    go_ret2
    exact ⟨rfl, Below.refl _ _⟩
  | true =>
    rw [if_neg (by simp)] at hE
    by_cases h0 : H.data.toList = []
    · have e0 : E = none := by rw [hE]; exact numE_none _ _ (Or.inl h0)
      clear hE; subst e0
      rw [show entV none = .tuple #[.string ⟨#[]⟩, .bool false] from rfl]
      obtain rfl : H = ⟨#[]⟩ := ba_of H _ h0
      clear h0
      go_enter Tryz.func50, Tryz.ntmps50
      go_wp2_with fail
      refine (HC.out.1 _).mono ?_
      rintro e w' ⟨rfl, rfl⟩
      go_wp2_with fail
      refine (HC.out.2 _).mono ?_
      rintro e w' ⟨rfl, rfl⟩
      go_wp2_with fail
      go_ret2
      exact ⟨rfl, Below.refl _ _⟩
    · have n0 : H.toList.isEmpty = false := by rw [Lib.toList_data]; simpa using h0
      by_cases h8 : 8 < H.size
      · have e0 : E = none := by rw [hE]; exact numE_none _ _ (Or.inr (Or.inl h8))
        clear hE; subst e0
        rw [show entV none = .tuple #[.string ⟨#[]⟩, .bool false] from rfl]
        clear h0
        go_enter Tryz.func50, Tryz.ntmps50
        go_wp2_with fail
        refine (HC.out.1 _).mono ?_
        rintro e w' ⟨rfl, rfl⟩
        go_wp2_with fail
        refine (HC.out.2 _).mono ?_
        rintro e w' ⟨rfl, rfl⟩
        go_wp2_with fail
        go_ret2
        exact ⟨rfl, Below.refl _ _⟩
      · have hdig := digits_of 10 decSet decSet_c H.data.toList
        have cT := fun cutset W hb => trim_dec H cutset W (by omega) hb
        obtain ⟨T, hT⟩ : ∃ T : ByteArray, T = ⟨(Lib.trimS H.data.toList decSet).toArray⟩ := ⟨_, rfl⟩
        have hTl : T.toList = Lib.trimS H.data.toList decSet := by rw [hT, Lib.toList_data]
        rw [← hT] at cT
        rw [← hTl] at hdig
        clear hT hTl
        by_cases hd : T.toList = []
        · have hall := hdig.1 hd
          have hTe : T.toList.isEmpty = true := by simpa using hd
          have cP := fun W => ppuint_10 H W (by omega) h0 hall
          have hEs : E = if signB (numV 10 H.data.toList) then some (utf (numV 10 H.data.toList)) else none := by
            rw [hE]; exact numE_some 10 _ h0 (by show H.size ≤ 8; omega) hall
          have hsm := numV_small 10 (by omega) H.data.toList hall (by show H.size ≤ 8; omega)
          clear hE hdig hall h0
          generalize numV 10 H.data.toList = V at cP hEs hsm
          have HT := Lib.hid cT; clear cT
          have HP := Lib.hid cP; clear cP
          by_cases hbig : 1114111 < V
          · have e0 : E = none := by
              rw [hEs, if_neg]; intro hc; have := sign_bounds V hc; omega
            clear hEs; subst e0
            rw [show entV none = .tuple #[.string ⟨#[]⟩, .bool false] from rfl]
            go_enter Tryz.func50, Tryz.ntmps50
            go_wp2_with fail
            refine (HC.out.1 _).mono ?_
            rintro e w' ⟨rfl, rfl⟩
            go_wp2_with fail
            refine (HC.out.2 _).mono ?_
            rintro e w' ⟨rfl, rfl⟩
            go_wp2_with fail
            refine (HT.out _ _ (by decide)).mono ?_
            rintro e w2 ⟨rfl, hb2⟩
            go_wp2_with fail
            refine (HP.out _).mono ?_
            rintro e w3 ⟨rfl, hb3⟩
            go_wp2_with fail
            go_ret2
            exact ⟨rfl, hb2.trans (hb3.mono hb2.size)⟩
          · cases hsg : signB V with
            | false =>
              have e0 : E = none := by rw [hEs, if_neg (by simp [hsg])]
              clear hEs; subst e0
              rw [show entV none = .tuple #[.string ⟨#[]⟩, .bool false] from rfl]
              go_enter Tryz.func50, Tryz.ntmps50
              go_wp2_with fail
              refine (HC.out.1 _).mono ?_
              rintro e w' ⟨rfl, rfl⟩
              go_wp2_with fail
              refine (HC.out.2 _).mono ?_
              rintro e w' ⟨rfl, rfl⟩
              go_wp2_with fail
              refine (HT.out _ _ (by decide)).mono ?_
              rintro e w2 ⟨rfl, hb2⟩
              go_wp2_with fail
              refine (HP.out _).mono ?_
              rintro e w3 ⟨rfl, hb3⟩
              go_wp2_with fail
              refine (sign_c _ _).mono ?_
              rintro e w' ⟨rfl, rfl⟩
              go_wp2_with fail
              go_ret2
              exact ⟨rfl, hb2.trans (hb3.mono hb2.size)⟩
            | true =>
              have e0 : E = some (utf V) := by rw [hEs, if_pos hsg]
              clear hEs; subst e0
              rw [show entV (some (utf V)) = .tuple #[.string (Utf8.encode (V : Int)), .bool true] from by simp only [entV]; rw [utf_enc]]
              go_enter Tryz.func50, Tryz.ntmps50
              go_wp2_with fail
              refine (HC.out.1 _).mono ?_
              rintro e w' ⟨rfl, rfl⟩
              go_wp2_with fail
              refine (HC.out.2 _).mono ?_
              rintro e w' ⟨rfl, rfl⟩
              go_wp2_with fail
              refine (HT.out _ _ (by decide)).mono ?_
              rintro e w2 ⟨rfl, hb2⟩
              go_wp2_with fail
              refine (HP.out _).mono ?_
              rintro e w3 ⟨rfl, hb3⟩
              go_wp2_with fail
              refine (sign_c _ _).mono ?_
              rintro e w' ⟨rfl, rfl⟩
              go_wp2_with fail
              go_ret2
              exact ⟨rfl, hb2.trans (hb3.mono hb2.size)⟩
        · have e0 : E = none := by
            rw [hE]; exact numE_none _ _ (Or.inr (Or.inr fun hc => hd (hdig.2 hc)))
          clear hE hdig; subst e0
          rw [show entV none = .tuple #[.string ⟨#[]⟩, .bool false] from rfl]
          have hTe : T.toList.isEmpty = false := by simpa using hd
          have HT := Lib.hid cT; clear cT
          clear h0
          go_enter Tryz.func50, Tryz.ntmps50
          go_wp2_with fail
          refine (HC.out.1 _).mono ?_
          rintro e w' ⟨rfl, rfl⟩
          go_wp2_with fail
          refine (HC.out.2 _).mono ?_
          rintro e w' ⟨rfl, rfl⟩
          go_wp2_with fail
          refine (HT.out _ _ (by decide)).mono ?_
          rintro e w2 ⟨rfl, hb2⟩
          go_wp2_with fail
          go_ret2
          exact ⟨rfl, hb2⟩

set_option maxRecDepth 100000 in
set_option maxHeartbeats 2000000 in
theorem entity_16 (s D H : ByteArray) (w : World) (_hs : s.size ≤ 4611686018427387904) (hH : H.size ≤ s.size) (k1 : (s.toList == [97, 109, 112]) = false) (k2 : (s.toList == [108, 116]) = false) (k3 : (s.toList == [103, 116]) = false)
    (k4 : (s.toList == [113, 117, 111, 116]) = false) (k5 : (s.toList == [97, 112, 111, 115]) = false) (hh : Bool) (E : Option Bytes)
    (cH : ∀ W, Calls Tryz.prog 75 #[.string s, .string ⟨#[35]⟩] W fun e w' => e = .returned (.tuple #[.string D, .bool hh]) ∧ W = w')
    (cX : ∀ W, Calls Tryz.prog 75 #[.string D, .string ⟨#[120]⟩] W fun e w' => e = .returned (.tuple #[.string H, .bool true]) ∧ W = w')
    (hE : E = if hh = false then none else numE 16 H.data.toList) :
    Calls Tryz.prog 50 #[.string s] w fun e w' => e = .returned (entV E) ∧ Below w.heap.size w w' := by
  have HC := Lib.hid (And.intro cH cX)
  clear cH cX
  cases hh with
  | false =>
    rw [if_pos rfl] at hE; subst hE
    rw [show entV none = .tuple #[.string ⟨#[]⟩, .bool false] from rfl]
    go_enter Tryz.func50, Tryz.ntmps50
    go_wp2_with fail
    refine (HC.out.1 _).mono ?_
    rintro e w' ⟨rfl, rfl⟩
    go_wp2_with fail
    refine (HC.out.2 _).mono ?_
    rintro e w' ⟨rfl, rfl⟩
    go_wp2_with fail
    go_ret2
    exact ⟨rfl, Below.refl _ _⟩
  | true =>
    rw [if_neg (by simp)] at hE
    by_cases h0 : H.data.toList = []
    · have e0 : E = none := by rw [hE]; exact numE_none _ _ (Or.inl h0)
      clear hE; subst e0
      rw [show entV none = .tuple #[.string ⟨#[]⟩, .bool false] from rfl]
      obtain rfl : H = ⟨#[]⟩ := ba_of H _ h0
      clear h0
      go_enter Tryz.func50, Tryz.ntmps50
      go_wp2_with fail
      refine (HC.out.1 _).mono ?_
      rintro e w' ⟨rfl, rfl⟩
      go_wp2_with fail
      refine (HC.out.2 _).mono ?_
      rintro e w' ⟨rfl, rfl⟩
      go_wp2_with fail
      go_ret2
      exact ⟨rfl, Below.refl _ _⟩
    · have n0 : H.toList.isEmpty = false := by rw [Lib.toList_data]; simpa using h0
      by_cases h8 : 8 < H.size
      · have e0 : E = none := by rw [hE]; exact numE_none _ _ (Or.inr (Or.inl h8))
        clear hE; subst e0
        rw [show entV none = .tuple #[.string ⟨#[]⟩, .bool false] from rfl]
        clear h0
        go_enter Tryz.func50, Tryz.ntmps50
        go_wp2_with fail
        refine (HC.out.1 _).mono ?_
        rintro e w' ⟨rfl, rfl⟩
        go_wp2_with fail
        refine (HC.out.2 _).mono ?_
        rintro e w' ⟨rfl, rfl⟩
        go_wp2_with fail
        go_ret2
        exact ⟨rfl, Below.refl _ _⟩
      · have hdig := digits_of 16 hexSet hexSet_c H.data.toList
        have cT := fun cutset W hb => trim_hex H cutset W (by omega) hb
        obtain ⟨T, hT⟩ : ∃ T : ByteArray, T = ⟨(Lib.trimS H.data.toList hexSet).toArray⟩ := ⟨_, rfl⟩
        have hTl : T.toList = Lib.trimS H.data.toList hexSet := by rw [hT, Lib.toList_data]
        rw [← hT] at cT
        rw [← hTl] at hdig
        clear hT hTl
        by_cases hd : T.toList = []
        · have hall := hdig.1 hd
          have hTe : T.toList.isEmpty = true := by simpa using hd
          have cP := fun W => ppuint_16 H W (by omega) h0 hall
          have hEs : E = if signB (numV 16 H.data.toList) then some (utf (numV 16 H.data.toList)) else none := by
            rw [hE]; exact numE_some 16 _ h0 (by show H.size ≤ 8; omega) hall
          have hsm := numV_small 16 (by omega) H.data.toList hall (by show H.size ≤ 8; omega)
          clear hE hdig hall h0
          generalize numV 16 H.data.toList = V at cP hEs hsm
          have HT := Lib.hid cT; clear cT
          have HP := Lib.hid cP; clear cP
          by_cases hbig : 1114111 < V
          · have e0 : E = none := by
              rw [hEs, if_neg]; intro hc; have := sign_bounds V hc; omega
            clear hEs; subst e0
            rw [show entV none = .tuple #[.string ⟨#[]⟩, .bool false] from rfl]
            go_enter Tryz.func50, Tryz.ntmps50
            go_wp2_with fail
            refine (HC.out.1 _).mono ?_
            rintro e w' ⟨rfl, rfl⟩
            go_wp2_with fail
            refine (HC.out.2 _).mono ?_
            rintro e w' ⟨rfl, rfl⟩
            go_wp2_with fail
            refine (HT.out _ _ (by decide)).mono ?_
            rintro e w2 ⟨rfl, hb2⟩
            go_wp2_with fail
            refine (HP.out _).mono ?_
            rintro e w3 ⟨rfl, hb3⟩
            go_wp2_with fail
            go_ret2
            exact ⟨rfl, hb2.trans (hb3.mono hb2.size)⟩
          · cases hsg : signB V with
            | false =>
              have e0 : E = none := by rw [hEs, if_neg (by simp [hsg])]
              clear hEs; subst e0
              rw [show entV none = .tuple #[.string ⟨#[]⟩, .bool false] from rfl]
              go_enter Tryz.func50, Tryz.ntmps50
              go_wp2_with fail
              refine (HC.out.1 _).mono ?_
              rintro e w' ⟨rfl, rfl⟩
              go_wp2_with fail
              refine (HC.out.2 _).mono ?_
              rintro e w' ⟨rfl, rfl⟩
              go_wp2_with fail
              refine (HT.out _ _ (by decide)).mono ?_
              rintro e w2 ⟨rfl, hb2⟩
              go_wp2_with fail
              refine (HP.out _).mono ?_
              rintro e w3 ⟨rfl, hb3⟩
              go_wp2_with fail
              refine (sign_c _ _).mono ?_
              rintro e w' ⟨rfl, rfl⟩
              go_wp2_with fail
              go_ret2
              exact ⟨rfl, hb2.trans (hb3.mono hb2.size)⟩
            | true =>
              have e0 : E = some (utf V) := by rw [hEs, if_pos hsg]
              clear hEs; subst e0
              rw [show entV (some (utf V)) = .tuple #[.string (Utf8.encode (V : Int)), .bool true] from by simp only [entV]; rw [utf_enc]]
              go_enter Tryz.func50, Tryz.ntmps50
              go_wp2_with fail
              refine (HC.out.1 _).mono ?_
              rintro e w' ⟨rfl, rfl⟩
              go_wp2_with fail
              refine (HC.out.2 _).mono ?_
              rintro e w' ⟨rfl, rfl⟩
              go_wp2_with fail
              refine (HT.out _ _ (by decide)).mono ?_
              rintro e w2 ⟨rfl, hb2⟩
              go_wp2_with fail
              refine (HP.out _).mono ?_
              rintro e w3 ⟨rfl, hb3⟩
              go_wp2_with fail
              refine (sign_c _ _).mono ?_
              rintro e w' ⟨rfl, rfl⟩
              go_wp2_with fail
              go_ret2
              exact ⟨rfl, hb2.trans (hb3.mono hb2.size)⟩
        · have e0 : E = none := by
            rw [hE]; exact numE_none _ _ (Or.inr (Or.inr fun hc => hd (hdig.2 hc)))
          clear hE hdig; subst e0
          rw [show entV none = .tuple #[.string ⟨#[]⟩, .bool false] from rfl]
          have hTe : T.toList.isEmpty = false := by simpa using hd
          have HT := Lib.hid cT; clear cT
          clear h0
          go_enter Tryz.func50, Tryz.ntmps50
          go_wp2_with fail
          refine (HC.out.1 _).mono ?_
          rintro e w' ⟨rfl, rfl⟩
          go_wp2_with fail
          refine (HC.out.2 _).mono ?_
          rintro e w' ⟨rfl, rfl⟩
          go_wp2_with fail
          refine (HT.out _ _ (by decide)).mono ?_
          rintro e w2 ⟨rfl, hb2⟩
          go_wp2_with fail
          go_ret2
          exact ⟨rfl, hb2⟩

theorem cut_len (l p : Bytes) : (Lib.trimPrefix l p).length ≤ l.length := by
  unfold Lib.trimPrefix; split
  · simp
  · exact Nat.le_refl _

theorem entity_c (s : ByteArray) (w : World) (hs : s.size ≤ 4611686018427387904) :
    Calls Tryz.prog 50 #[.string s] w fun e w' => e = .returned (entV (entity s.data.toList)) ∧ Below w.heap.size w w' := by
  by_cases h : s.data.toList = [97, 109, 112] ∨ s.data.toList = [108, 116] ∨ s.data.toList = [103, 116] ∨ s.data.toList = [113, 117, 111, 116] ∨ s.data.toList = [97, 112, 111, 115]
  · exact entity_five s w h
  · simp only [not_or] at h
    obtain ⟨h1, h2, h3, h4, h5⟩ := h
    have hE := entity_rest _ h1 h2 h3 h4 h5
    have cH : ∀ W, Calls Tryz.prog 75 #[.string s, .string ⟨#[35]⟩] W fun e w' => e = .returned (.tuple #[.string ⟨(hashOf s.data.toList).toArray⟩, .bool (isHash s.data.toList)]) ∧ W = w' :=
      fun W => (Tryz.strings_CutPrefix s ⟨#[35]⟩ W).mono fun e w' ⟨he, hw⟩ => ⟨he, hw.symm⟩
    have cX : ∀ W, Calls Tryz.prog 75 #[.string ⟨(hashOf s.data.toList).toArray⟩, .string ⟨#[120]⟩] W fun e w' => e = .returned (.tuple #[.string ⟨(hexOf s.data.toList).toArray⟩, .bool (isHex s.data.toList)]) ∧ W = w' :=
      fun W => (Tryz.strings_CutPrefix ⟨(hashOf s.data.toList).toArray⟩ ⟨#[120]⟩ W).mono fun e w' ⟨he, hw⟩ => ⟨he, hw.symm⟩
    have hlen : (⟨(hexOf s.data.toList).toArray⟩ : ByteArray).size ≤ s.size := by
      show (hexOf s.data.toList).toArray.size ≤ _
      have a1 := cut_len (hashOf s.data.toList) [120]
      have a2 := cut_len s.data.toList [35]
      rw [size_list] at a2
      simp only [List.size_toArray]
      exact Nat.le_trans a1 a2
    cases hx : isHex s.data.toList with
    | false =>
      rw [hx] at cX hE
      exact entity_10 s _ _ w hs hlen (eqStr_ne s _ h1) (eqStr_ne s _ h2) (eqStr_ne s _ h3) (eqStr_ne s _ h4) (eqStr_ne s _ h5) _ _ cH cX (by rw [hE]; rfl)
    | true =>
      rw [hx] at cX hE
      exact entity_16 s _ _ w hs hlen (eqStr_ne s _ h1) (eqStr_ne s _ h2) (eqStr_ne s _ h3) (eqStr_ne s _ h4) (eqStr_ne s _ h5) _ _ cH cX (by rw [hE]; rfl)
end Go.Proofs.YtcicibeggkmlcaaGreatDoor
