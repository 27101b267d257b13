/- The walk of tree.Attr. Conditions: the element lies in memory. Plain facts of kids and attributes by their names. Conditions: none. -/
import Derived.Test.YtcicibeggkmlcaaGreatDoorTrAJ2
import Derived.Test.YtcicibeggkmlcaaGreatDoorLmXJ2
import Derived.Test.YtcicibeggkmlcaaGreatDoorPlU
namespace Go.Proofs.YtcicibeggkmlcaaGreatDoor
open Go.RowKit Go.Sof

/-- the first attribute of a name. -/
def attrV : List PAttr → Bytes → Option Bytes
  | [], _ => none
  | a :: r, nm => if a.name = nm then some a.value else attrV r nm
theorem attrV_none : ∀ (al : List PAttr) (nm : Bytes), (∀ (j : Nat) (hj : j < al.length), (al[j]'hj).name ≠ nm) → attrV al nm = none
  | [], _, _ => rfl
  | a :: r, nm, h => by
    have h0 : a.name ≠ nm := h 0 (by simp)
    rw [attrV, if_neg h0]
    exact attrV_none r nm (fun j hj => h (j + 1) (by simpa using hj))
theorem attrV_at : ∀ (al : List PAttr) (nm : Bytes) (k : Nat) (hk : k < al.length), (∀ (j : Nat) (hj : j < al.length), j < k → (al[j]'hj).name ≠ nm) → (al[k]'hk).name = nm → attrV al nm = some (al[k]'hk).value
  | [], _, k, hk, _, _ => by simp at hk
  | a :: r, nm, 0, _, _, h => by
    rw [attrV, if_pos (by simpa using h)]; rfl
  | a :: r, nm, k + 1, hk, hn, h => by
    have h0 : a.name ≠ nm := hn 0 (by simp) (by omega)
    rw [attrV, if_neg h0]
    exact attrV_at r nm k (by simpa using hk) (fun j hj hjk => hn (j + 1) (by simpa using hj) (by omega)) (by simpa using h)

set_option maxRecDepth 1000000 in
set_option maxHeartbeats 1000000 in
theorem asame_c (w : World) (A : Nat) (X N Y : Bytes) (h : w.cell? ⟨A, 0, none⟩ = some (.string ⟨N.toArray⟩)) :
    Calls Tryz.prog 69 #[.agg #[.string ⟨X.toArray⟩, .string ⟨Y.toArray⟩], .pointer (some ⟨A, 0, none⟩)] w fun en w' => en = .returned (.bool (X == N)) ∧ Below w.heap.size w w' := by
  have hl := World.block_lt_of_cell? w _ h
  go_enter Tryz.func69, Tryz.ntmps69
  go_wp2_with fail
  go_ret
  exact ⟨rfl, (Below.refl _ w).alloc (Nat.le_refl _) _⟩

set_option maxRecDepth 1000000 in
set_option maxHeartbeats 1000000 in
theorem aidx_c (w : World) (A : Nat) (p : Option Addr) (n c : Nat) (al : List PAttr) (N : Bytes) (h : w.cell? ⟨A, 0, none⟩ = some (.string ⟨N.toArray⟩)) (hn : al.length = n) (hb : n ≤ 4194304) (hc : AttrsF w p al) :
    Calls Tryz.prog 68 #[.slice p n c, .func (.func 69) #[] #[.pointer (some ⟨A, 0, none⟩)]] w fun en w' =>
      ((en = .returned (.int .i64 (-1)) ∧ attrV al N = none) ∨ ∃ (k : Nat) (hk : k < al.length), en = .returned (.int .i64 k) ∧ attrV al N = some (al[k]'hk).value) ∧ Below w.heap.size w w' := by
  go_enter Tryz.func68, Tryz.ntmps68
  go_wp2_with fail
  go_loopg [8] n (fun g i wr => Below w.heap.size w wr ∧ ∃ k : Nat, k ≤ n ∧ g = n - k ∧ i = .int .i64 k ∧ ∀ j (hj : j < al.length), j < k → (al[j]'hj).name ≠ N)
  case atStart => exact ⟨Below.refl _ _, 0, Nat.zero_le _, rfl, rfl, fun j _ hj => absurd hj (by omega)⟩
  case round =>
    obtain ⟨hb1, k, hk, hg, rfl, ha⟩ := hrel
    have hA := cell_keep hb1 h
    by_cases hlt : k < n
    · have hka : k < al.length := by omega
      obtain ⟨b, o, rfl, e0, e1⟩ := hc k hka
      have d0 := cell_keep hb1 e0; have d1 := cell_keep hb1 e1
      clear e0 e1
      have hX : ∃ x, x = al[k]'hka := ⟨_, rfl⟩
      obtain ⟨x, hx⟩ := hX
      rw [← hx] at d0 d1
      have hkI : (k : Int) < (n : Int) := by omega
      have hcl := asame_c wr A x.name N x.value hA
      by_cases hN : x.name = N
      · have hbb : (x.name == N) = true := by simpa using hN
        rw [hbb] at hcl
        have hat := attrV_at al N k hka ha (by rw [← hx]; exact hN)
        have HK := Lib.hid (And.intro hb1 hat); have HC := Lib.hid hcl; clear hb1 hg ha hc h hat hcl hbb hN hx hn
        go_wp2_with (first | (go_at_call 69; refine HC.out.mono ?_; rintro en w2 ⟨rfl, b2⟩))
        go_ret
        exact ⟨.inr ⟨k, hka, rfl, HK.out.2⟩, HK.out.1.trans (b2.mono HK.out.1.size)⟩
      · have hbb : (x.name == N) = false := by rw [beq_eq_false_iff_ne]; exact hN
        rw [hbb] at hcl
        have ha2 : ∀ j (hj : j < al.length), j < k + 1 → (al[j]'hj).name ≠ N := fun j hj hjk => by
          by_cases hjk2 : j < k
          · exact ha j hj hjk2
          · obtain rfl : j = k := by omega
            rw [← hx]; exact hN
        have HK := Lib.hid (And.intro hb1 (And.intro ha2 hg)); have HC := Lib.hid hcl; clear hb1 hg ha hc h ha2 hcl hbb hN hx hn
        go_wp2_with (first | (go_at_call 69; refine HC.out.mono ?_; rintro en w2 ⟨rfl, b2⟩))
        go_roundg (n - (k + 1))
        case measure => have := HK.out.2.2; omega
        case rel => exact ⟨HK.out.1.trans (b2.mono HK.out.1.size), k + 1, by omega, rfl, by go_num, HK.out.2.1⟩
    · obtain rfl : k = n := by omega
      have hno := attrV_none al N (fun j hj => ha j hj (by omega))
      have HK := Lib.hid (And.intro hb1 hno); clear hb1 hg ha hc h hno hn
      have hkI : decide ((k : Int) < (k : Int)) = false := by simp
      go_wp2_with fail
      go_ret
      exact ⟨.inl ⟨rfl, HK.out.2⟩, HK.out.1⟩

set_option maxRecDepth 1000000 in
set_option maxHeartbeats 2000000 in
theorem attr_get_c (w0 : World) (Q : Nat → Prop) (dd : Nat) (n : PNode) (v : Value) (hn : NodeD w0 Q dd v n) (hz : n.attrs.length ≤ 4194304) (w : World) (hlow : Below w0.heap.size w0 w) (nm : Bytes) :
    Calls Tryz.prog 40 #[v, .string ⟨nm.toArray⟩] w fun en w' => en = .returned (.tuple #[.string ⟨((attrV n.attrs nm).getD []).toArray⟩, .bool (attrV n.attrs nm).isSome]) ∧ Below w.heap.size w w' := by
  have hd1 : ∃ d, dd = d + 1 := by cases dd with
    | zero => exact False.elim hn
    | succ d => exact ⟨d, rfl⟩
  obtain ⟨d, rfl⟩ := hd1
  obtain ⟨pa, ca, pk, ck, rfl, _, _, hA, _⟩ := hn
  unfold nodeV
  generalize n.name = N at *
  generalize n.pos = P at *
  generalize n.text = T at *
  obtain ⟨kl, hkl⟩ : ∃ k, k = n.kids.length := ⟨_, rfl⟩
  rw [← hkl]
  clear hkl
  generalize n.attrs = ats at *
  obtain ⟨al, hal⟩ : ∃ k, ats.length = k := ⟨_, rfl⟩
  rw [hal] at hz ⊢
  have hsz1 : (w.alloc (.cells #[.string ⟨N.toArray⟩, .int .i64 P, .slice pa al ca, .slice pk kl ck, .string ⟨T.toArray⟩] 47)).heap.size = w.heap.size + 1 := by simp
  have hbW : Below w.heap.size w ((w.alloc (.cells #[.string ⟨N.toArray⟩, .int .i64 P, .slice pa al ca, .slice pk kl ck, .string ⟨T.toArray⟩] 47)).alloc (.cells #[.string ⟨nm.toArray⟩] 9)) := ((Below.refl _ w).alloc (Nat.le_refl _) _).alloc (by simp) _
  have hE : Nd5 ((w.alloc (.cells #[.string ⟨N.toArray⟩, .int .i64 P, .slice pa al ca, .slice pk kl ck, .string ⟨T.toArray⟩] 47)).alloc (.cells #[.string ⟨nm.toArray⟩] 9)) w.heap.size N P (.slice pa al ca) (.slice pk kl ck) T := (Nd5.new w N P (.slice pa al ca) (.slice pk kl ck) T).below ((Below.refl _ _).alloc (Nat.le_refl _) _)
  have hcell : World.cell? ((w.alloc (.cells #[.string ⟨N.toArray⟩, .int .i64 P, .slice pa al ca, .slice pk kl ck, .string ⟨T.toArray⟩] 47)).alloc (.cells #[.string ⟨nm.toArray⟩] 9)) ⟨w.heap.size + 1, 0, none⟩ = some (.string ⟨nm.toArray⟩) := by
    have := heap_alloc_new (w.alloc (.cells #[.string ⟨N.toArray⟩, .int .i64 P, .slice pa al ca, .slice pk kl ck, .string ⟨T.toArray⟩] 47)) (.cells #[.string ⟨nm.toArray⟩] 9)
    rw [hsz1] at this
    unfold World.cell?; rw [this]; rfl
  have hAF : AttrsF ((w.alloc (.cells #[.string ⟨N.toArray⟩, .int .i64 P, .slice pa al ca, .slice pk kl ck, .string ⟨T.toArray⟩] 47)).alloc (.cells #[.string ⟨nm.toArray⟩] 9)) pa ats := (hA.flat.below hlow).below hbW
  have hcall := aidx_c ((w.alloc (.cells #[.string ⟨N.toArray⟩, .int .i64 P, .slice pa al ca, .slice pk kl ck, .string ⟨T.toArray⟩] 47)).alloc (.cells #[.string ⟨nm.toArray⟩] 9)) (w.heap.size + 1) pa al ca ats nm hcell hal hz hAF
  have HA := Lib.hid (And.intro hbW (And.intro hE hAF)); clear hbW hE hcell hsz1 hlow hA hAF
  cases hv : attrV ats nm with
  | none =>
    have hc2 : Calls Tryz.prog 68 #[.slice pa al ca, .func (.func 69) #[] #[.pointer (some ⟨w.heap.size + 1, 0, none⟩)]] ((w.alloc (.cells #[.string ⟨N.toArray⟩, .int .i64 P, .slice pa al ca, .slice pk kl ck, .string ⟨T.toArray⟩] 47)).alloc (.cells #[.string ⟨nm.toArray⟩] 9)) fun en w' => en = .returned (.int .i64 (-1)) ∧ Below (((w.alloc (.cells #[.string ⟨N.toArray⟩, .int .i64 P, .slice pa al ca, .slice pk kl ck, .string ⟨T.toArray⟩] 47)).alloc (.cells #[.string ⟨nm.toArray⟩] 9))).heap.size ((w.alloc (.cells #[.string ⟨N.toArray⟩, .int .i64 P, .slice pa al ca, .slice pk kl ck, .string ⟨T.toArray⟩] 47)).alloc (.cells #[.string ⟨nm.toArray⟩] 9)) w' := by
      refine hcall.mono ?_
      rintro en w' ⟨h1, b⟩
      rcases h1 with ⟨rfl, _⟩ | ⟨k, hk, _, h3⟩
      · exact ⟨rfl, b⟩
      · rw [hv] at h3; simp at h3
    have HC := Lib.hid hc2; clear hcall hc2 hv hal
    go_enter Tryz.func40, Tryz.ntmps40
    go_wp2_with (first | (go_at_call 68; refine HC.out.mono ?_; rintro en w1 ⟨rfl, b1⟩))
    go_ret2
    exact ⟨rfl, HA.out.1.trans (b1.mono (by simp; omega))⟩
  | some V =>
    have hc2 : Calls Tryz.prog 68 #[.slice pa al ca, .func (.func 69) #[] #[.pointer (some ⟨w.heap.size + 1, 0, none⟩)]] ((w.alloc (.cells #[.string ⟨N.toArray⟩, .int .i64 P, .slice pa al ca, .slice pk kl ck, .string ⟨T.toArray⟩] 47)).alloc (.cells #[.string ⟨nm.toArray⟩] 9)) fun en w' => (∃ k b o, k < al ∧ en = .returned (.int .i64 (k : Nat)) ∧ pa = some ⟨b, o, none⟩ ∧ w'.cell? ⟨b, o + k * 2 + 1, none⟩ = some (.string ⟨V.toArray⟩) ∧ Nd5 w' w.heap.size N P (.slice pa al ca) (.slice pk kl ck) T) ∧ Below w.heap.size ((w.alloc (.cells #[.string ⟨N.toArray⟩, .int .i64 P, .slice pa al ca, .slice pk kl ck, .string ⟨T.toArray⟩] 47)).alloc (.cells #[.string ⟨nm.toArray⟩] 9)) w' := by
      refine hcall.mono ?_
      rintro en w' ⟨h1, b⟩
      rcases h1 with ⟨_, h3⟩ | ⟨k, hk, rfl, h3⟩
      · rw [hv] at h3; simp at h3
      · rw [hv] at h3
        simp only [Option.some.injEq] at h3
        obtain ⟨bb, o, e, _, c1⟩ := HA.out.2.2 k hk
        rw [← h3] at c1
        exact ⟨⟨k, bb, o, by omega, rfl, e, cell_keep b c1, HA.out.2.1.below b⟩, b.mono (by simp; omega)⟩
    have HC := Lib.hid hc2; clear hcall hc2 hv hal
    go_enter Tryz.func40, Tryz.ntmps40
    go_wp2_with (first | (go_at_call 68; refine HC.out.mono ?_; rintro en w1 ⟨⟨k, b, o, hk, rfl, e, d1, hE1⟩, b1⟩; have kI : (k : Int) < (al : Int) := (by omega); have q2 := hE1.c2; rw [e] at q2; have H1 := Lib.hid (And.intro b1 (And.intro hE1 e)); clear b1 hE1 e))
    go_ret2
    exact ⟨rfl, HA.out.1.trans H1.out.1⟩
end Go.Proofs.YtcicibeggkmlcaaGreatDoor

namespace Go.Proofs.YtcicibeggkmlcaaGreatDoor
open Go.RowKit Go.Sof

/-- the kids of a name. -/
def filtN (ks : List PNode) (nm : Bytes) : List PNode := ks.filter (fun k => k.name == nm)
theorem filt_hit {ks : List PNode} {nm : Bytes} {i : Nat} (hi : i < ks.length) (h : (ks[i]'hi).name = nm) : filtN (ks.take (i + 1)) nm = filtN (ks.take i) nm ++ [ks[i]'hi] := by
  unfold filtN
  rw [List.take_succ_eq_append_getElem hi, List.filter_append]
  simp [h]
theorem filt_skip {ks : List PNode} {nm : Bytes} {i : Nat} (hi : i < ks.length) (h : (ks[i]'hi).name ≠ nm) : filtN (ks.take (i + 1)) nm = filtN (ks.take i) nm := by
  unfold filtN
  rw [List.take_succ_eq_append_getElem hi, List.filter_append]
  simp [h]
theorem filt_get {ks : List PNode} {nm : Bytes} {i : Nat} (hi : i < ks.length) (h : (ks[i]'hi).name = nm) : ∃ hk : (filtN (ks.take i) nm).length < (filtN ks nm).length, (filtN ks nm)[(filtN (ks.take i) nm).length]'hk = ks[i]'hi := by
  have e : filtN ks nm = filtN (ks.take i) nm ++ (ks[i]'hi :: filtN (ks.drop (i + 1)) nm) := by
    unfold filtN
    conv => lhs; rw [← List.take_append_drop i ks]
    rw [List.filter_append, List.drop_eq_getElem_cons hi, List.filter_cons, if_pos (by simpa using h)]
  have hk : (filtN (ks.take i) nm).length < (filtN ks nm).length := by rw [e, List.length_append, List.length_cons]; omega
  refine ⟨hk, ?_⟩
  have h2 : (filtN ks nm)[(filtN (ks.take i) nm).length]? = some (ks[i]'hi) := by rw [e]; simp
  rw [List.getElem?_eq_getElem hk] at h2
  simpa using h2
theorem filt_le (ks : List PNode) (nm : Bytes) : (filtN ks nm).length ≤ ks.length := List.length_filter_le _ _
theorem filt_all (ks : List PNode) (nm : Bytes) : filtN (ks.take ks.length) nm = filtN ks nm := by rw [List.take_length]
theorem attrV_hit {al : List PAttr} {nm : Bytes} {i : Nat} (hi : i < al.length) (h : (al[i]'hi).name = nm) : attrV (al.drop i) nm = some (al[i]'hi).value := by
  rw [List.drop_eq_getElem_cons hi, attrV, if_pos h]
theorem attrV_miss {al : List PAttr} {nm : Bytes} {i : Nat} (hi : i < al.length) (h : (al[i]'hi).name ≠ nm) : attrV (al.drop i) nm = attrV (al.drop (i + 1)) nm := by
  rw [List.drop_eq_getElem_cons hi, attrV, if_neg h]
end Go.Proofs.YtcicibeggkmlcaaGreatDoor
