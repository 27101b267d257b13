/- The walks of the reader of marks: fail, take, skip, name. Conditions: the reader lies in memory as it is made; the text has at most 65536 bytes. -/
import Derived.Test.YtcicibeggkmlcaaGreatDoorChGJ2
import Derived.Test.YtcicibeggkmlcaaGreatDoorPlO
import Derived.Deep.RegionHeld3
namespace Go.Proofs.YtcicibeggkmlcaaGreatDoor
open Go.RowKit Go.Sof

/-- the reader in memory. -/
def Rd (w : World) (R : Nat) (s : ByteArray) (p : Nat) (out : Value) (fr e : Int) : Prop :=
  w.heap[R]? = some (.cells #[.string s, .int .i64 p, out, .int .i64 fr, .int .i64 e] 84 (0, 0))

theorem Rd.lt {w : World} {R : Nat} {s : ByteArray} {p : Nat} {out : Value} {fr e : Int} (h : Rd w R s p out fr e) : R < w.heap.size := (Array.getElem?_eq_some_iff.1 h).1
theorem Rd.c0 {w : World} {R : Nat} {s : ByteArray} {p : Nat} {out : Value} {fr e : Int} (h : Rd w R s p out fr e) : w.cell? ⟨R, 0, none⟩ = some (.string s) := by
  unfold Rd at h; unfold World.cell?; rw [h]; rfl
theorem Rd.c1 {w : World} {R : Nat} {s : ByteArray} {p : Nat} {out : Value} {fr e : Int} (h : Rd w R s p out fr e) : w.cell? ⟨R, 1, none⟩ = some (.int .i64 p) := by
  unfold Rd at h; unfold World.cell?; rw [h]; rfl
theorem Rd.c2 {w : World} {R : Nat} {s : ByteArray} {p : Nat} {out : Value} {fr e : Int} (h : Rd w R s p out fr e) : w.cell? ⟨R, 2, none⟩ = some out := by
  unfold Rd at h; unfold World.cell?; rw [h]; rfl
theorem Rd.c3 {w : World} {R : Nat} {s : ByteArray} {p : Nat} {out : Value} {fr e : Int} (h : Rd w R s p out fr e) : w.cell? ⟨R, 3, none⟩ = some (.int .i64 fr) := by
  unfold Rd at h; unfold World.cell?; rw [h]; rfl
theorem Rd.c4 {w : World} {R : Nat} {s : ByteArray} {p : Nat} {out : Value} {fr e : Int} (h : Rd w R s p out fr e) : w.cell? ⟨R, 4, none⟩ = some (.int .i64 e) := by
  unfold Rd at h; unfold World.cell?; rw [h]; rfl
theorem Rd.fz {w : World} {R : Nat} {s : ByteArray} {p : Nat} {out : Value} {fr e : Int} (h : Rd w R s p out fr e) (i : Nat) : w.frozen? ⟨R, i, none⟩ = false := by
  unfold Rd at h; unfold World.frozen?; rw [h]; simp
theorem Rd.below {w w' : World} {R : Nat} {s : ByteArray} {p : Nat} {out : Value} {fr e : Int} (h : Rd w R s p out fr e) (hb : Below w.heap.size w w') : Rd w' R s p out fr e := (hb.block R h.lt).trans h
theorem Rd.grown {w w' : World} {R : Nat} {s : ByteArray} {p : Nat} {out : Value} {fr e : Int} {row : Option Nat} (h : Rd w R s p out fr e) (hb : w.grownBy w' row) (hr : some R ≠ row) : Rd w' R s p out fr e := (hb.block R h.lt hr).trans h
theorem Rd.set1 {w : World} {R : Nat} {s : ByteArray} {p : Nat} {out : Value} {fr e : Int} (h : Rd w R s p out fr e) (q : Nat) (x : Int) (hx : x = q) : Rd (w.setCell ⟨R, 1, none⟩ (.int .i64 x)) R s q out fr e := by
  subst hx; exact heap_setCell_same w R 1 _ _ _ h
theorem Rd.set2 {w : World} {R : Nat} {s : ByteArray} {p : Nat} {out : Value} {fr e : Int} (h : Rd w R s p out fr e) (v : Value) : Rd (w.setCell ⟨R, 2, none⟩ v) R s p v fr e := heap_setCell_same w R 2 _ _ _ h
theorem Rd.set3 {w : World} {R : Nat} {s : ByteArray} {p : Nat} {out : Value} {fr e : Int} (h : Rd w R s p out fr e) (x : Int) : Rd (w.setCell ⟨R, 3, none⟩ (.int .i64 x)) R s p out x e := heap_setCell_same w R 3 _ _ _ h
theorem Rd.set4 {w : World} {R : Nat} {s : ByteArray} {p : Nat} {out : Value} {fr e : Int} (h : Rd w R s p out fr e) (x : Int) : Rd (w.setCell ⟨R, 4, none⟩ (.int .i64 x)) R s p out fr x := heap_setCell_same w R 4 _ _ _ h
theorem grown_set (w : World) (R i : Nat) (v : Value) : w.grownBy (w.setCell ⟨R, i, none⟩ v) (some R) :=
  ⟨rfl, rfl, rfl, by simp [World.setCell], fun k _ hk => Below.heap_setCell w _ v k (fun e => hk (by rw [e]))⟩
theorem grown_below {w w' : World} (h : Below w.heap.size w w') (row : Option Nat) : w.grownBy w' row := ⟨h.os, h.tape, h.output, h.size, fun k hk _ => h.block k hk⟩
theorem grown_drew (w : World) (row : Option Nat) : w.grownBy w.drew row := ⟨rfl, rfl, rfl, Nat.le_refl _, fun _ _ _ => rfl⟩
theorem below_grown {w w' : World} {R B : Nat} (h : w.grownBy w' (some R)) (hR : B ≤ R) (hB : B ≤ w.heap.size) : Below B w w' :=
  ⟨h.os, h.tape, h.output, h.size, fun k hk => h.block k (by omega) (fun e => by cases e; omega)⟩

set_option maxRecDepth 1000000 in
set_option maxHeartbeats 4000000 in
theorem fail_c (w : World) (R : Nat) (s : ByteArray) (p : Nat) (out : Value) (fr : Int) (h : Rd w R s p out fr 0) (k e : Int) :
    Calls Tryz.prog 83 #[.pointer (some ⟨R, 0, none⟩), .int .i64 k, .int .i64 e] w fun en w' => en = .returned (.tuple #[]) ∧ Rd w' R s p out k e ∧ w.grownBy w' (some R) := by
  have c4 := h.c4
  have c3 := h.c3
  have f3 := h.fz 3
  have f4 := h.fz 4
  have H := Lib.hid h; clear h
  go_enter Tryz.func83, Tryz.ntmps83
  go_wp2_with fail
  go_end0
  refine ⟨rfl, (H.out.set3 k).set4 e, ?_⟩
  exact (grown_set _ _ _ _).trans (grown_set _ _ _ _)

theorem grown_drewN (w : World) (n : Nat) (row : Option Nat) : w.grownBy (w.drewN n) row := ⟨rfl, rfl, rfl, Nat.le_refl _, fun _ _ _ => rfl⟩
theorem Rd.drewN {w : World} {R : Nat} {s : ByteArray} {p : Nat} {out : Value} {fr e : Int} (h : Rd w R s p out fr e) (n : Nat) : Rd (w.drewN n) R s p out fr e := h

set_option maxRecDepth 1000000 in
set_option maxHeartbeats 4000000 in
theorem take_c (t : ByteArray) (ht : t.size ≤ 65536) (w : World) (R : Nat) (s : ByteArray) (p : Nat) (out : Value) (fr e : Int) (h : Rd w R s p out fr e) (hs : s.size ≤ 65536) (hp : p ≤ s.size) (b : Bool) (hb : Lib.hasPrefix (s.data.toList.drop p) t.data.toList = b) :
    Calls Tryz.prog 85 #[.pointer (some ⟨R, 0, none⟩), .string t] w fun en w' => en = .returned (.bool b) ∧ Rd w' R s (if b then p + t.size else p) out fr e ∧ w.grownBy w' (some R) := by
  have hc := fun W => Tryz.strings_HasPrefix (s.extract p s.size) t W
  rw [Lib.extract_to_end, hb] at hc
  have HC := Lib.hid hc; clear hc hb
  have c0 := h.c0
  have c1 := h.c1
  have f1 := h.fz 1
  have H := Lib.hid h; clear h
  have hp1 : (p : Int) ≤ (s.size : Int) := by omega
  cases b with
  | true =>
    go_enter Tryz.func85, Tryz.ntmps85
    go_wp2_with fail
    go_quiet (first | (go_at_call 57; refine Calls.quiet_of_same (HC.out _)))
    go_wp2_with fail
    go_ret
    exact ⟨rfl, (H.out.drewN nq).set1 _ _ (by simp), (grown_drewN _ _ _).trans (grown_set _ _ _ _)⟩
  | false =>
    go_enter Tryz.func85, Tryz.ntmps85
    go_wp2_with fail
    go_quiet (first | (go_at_call 57; refine Calls.quiet_of_same (HC.out _)))
    go_wp2_with fail
    go_ret
    exact ⟨rfl, H.out.drewN nq, grown_drewN _ _ _⟩

theorem trim_len (l cs : Bytes) : (Lib.trimLeftS l cs).length + (l.takeWhile (cs.contains ·)).length = l.length := by
  unfold Lib.trimLeftS
  have := congrArg List.length (List.takeWhile_append_dropWhile (p := (cs.contains ·)) (l := l))
  rw [List.length_append] at this; omega

set_option maxRecDepth 1000000 in
set_option maxHeartbeats 4000000 in
theorem skip_c (w : World) (R : Nat) (s : ByteArray) (p : Nat) (out : Value) (fr e : Int) (h : Rd w R s p out fr e) (hs : s.size ≤ 65536) (hp : p ≤ s.size) :
    Calls Tryz.prog 87 #[.pointer (some ⟨R, 0, none⟩)] w fun en w' => en = .returned (.bool (decide (skipN (s.data.toList.drop p) ≠ 0))) ∧ Rd w' R s (p + skipN (s.data.toList.drop p)) out fr e ∧ w.grownBy w' (some R) := by
  have hc := fun W => Tryz.strings_TrimLeft_asc (s.extract p s.size) ⟨#[32, 9, 13, 10]⟩ W (by decide) (by
    intro j b hj
    have : b ∈ [32, 9, 13, 10] := List.mem_of_getElem? hj
    simp only [List.mem_cons, List.not_mem_nil, or_false] at this
    rcases this with rfl | rfl | rfl | rfl <;> decide)
  rw [Lib.extract_to_end] at hc
  have hl := trim_len (s.data.toList.drop p) [32, 9, 13, 10]
  rw [List.length_drop, show s.data.toList.length = s.size from Array.length_toList] at hl
  obtain ⟨V, hV⟩ : ∃ V : ByteArray, V = ⟨(Lib.trimLeftS (s.data.toList.drop p) [32, 9, 13, 10]).toArray⟩ := ⟨_, rfl⟩
  have hVs : V.size = (Lib.trimLeftS (s.data.toList.drop p) [32, 9, 13, 10]).length := by rw [hV]; show (List.toArray _).size = _; simp
  obtain ⟨n, hn⟩ : ∃ n, n = skipN (s.data.toList.drop p) := ⟨_, rfl⟩
  rw [← hVs, show (List.takeWhile (fun x => List.contains [32, 9, 13, 10] x) (s.data.toList.drop p)).length = n from hn.symm] at hl
  rw [show (ByteArray.mk #[32, 9, 13, 10]).data.toList = [32, 9, 13, 10] from rfl, ← hV] at hc
  rw [← hn]
  have HC := Lib.hid hc; clear hc hVs hV hn
  have c0 := h.c0
  have c1 := h.c1
  have H := Lib.hid h; clear h
  have hp1 : (p : Int) ≤ (s.size : Int) := by omega
  go_enter Tryz.func87, Tryz.ntmps87
  go_wp2_with fail
  go_region_held3 (fun w' => w'.cell? ⟨R, 0, none⟩ = some (.string s) ∧ w'.cell? ⟨R, 1, none⟩ = some (.int .i64 p)) (first | exact ⟨c0, c1⟩ | exact ⟨k0, k1⟩) (first | (go_at_call 109; refine (HC.out _).mono ?_; rintro en w1 ⟨rfl, b1⟩; have hr := Rd.below (w := w.drew) H.out b1; have k0 := hr.c0; have k1 := hr.c1; have f1 := hr.fz 1))
  go_wp2_with fail
  go_ret
  refine ⟨ret_bool (by rw [decide_eq_decide]; omega), hr.set1 _ _ (by omega), ((grown_drew w _).trans (grown_below b1 _)).trans (grown_set _ _ _ _)⟩

theorem cat_list (a b : ByteArray) : (a ++ b).data.toList = a.data.toList ++ b.data.toList := by simp
theorem ext_one (s : ByteArray) (k : Nat) (h : k < s.size) : (s.extract k (k + 1)).data.toList = [s[k]'h] := by
  have h' : k < s.data.toList.length := h
  rw [Lib.extract_data, Nat.add_sub_cancel_left, List.drop_eq_getElem_cons h']; rfl
theorem tw_at (p : UInt8 → Bool) : ∀ (l : Bytes) (k : Nat) (h : k < l.length), k < (l.takeWhile p).length → p (l[k]'h) = true
  | [], _, h, _ => by simp at h
  | a :: t, k, h, hk => by
    cases hp : p a with
    | false => simp [hp] at hk
    | true =>
      cases k with
      | zero => exact hp
      | succ k =>
        simp only [List.takeWhile_cons, hp, if_true, List.length_cons] at hk
        exact tw_at p t k (by simpa using h) (by omega)
theorem tw_stop (p : UInt8 → Bool) : ∀ (l : Bytes) (h : (l.takeWhile p).length < l.length), p (l[(l.takeWhile p).length]'h) = false
  | [], h => by simp at h
  | a :: t, h => by
    cases hp : p a with
    | false => simp [hp]
    | true =>
      simp only [List.takeWhile_cons, hp, if_true, List.length_cons] at h ⊢
      exact tw_stop p t (by omega)
theorem tw_eq (p : UInt8 → Bool) (l : Bytes) : l.take (l.takeWhile p).length = l.takeWhile p := by
  have := List.takeWhile_prefix (l := l) p
  exact (List.prefix_iff_eq_take.1 this).symm

set_option maxRecDepth 1000000 in
set_option maxHeartbeats 4000000 in
theorem nm_c (w : World) (R : Nat) (s : ByteArray) (p : Nat) (out : Value) (fr e : Int) (h : Rd w R s p out fr e) (hs : s.size ≤ 65536) (hp : p ≤ s.size) :
    Calls Tryz.prog 86 #[.pointer (some ⟨R, 0, none⟩)] w fun en w' => en = .returned (.string ⟨(nameP (s.data.toList.drop p)).toArray⟩) ∧ Rd w' R s (p + (nameP (s.data.toList.drop p)).length) out fr e ∧ w.grownBy w' (some R) := by
  obtain ⟨T, hT⟩ : ∃ T, T = ((s.data.toList.drop p).takeWhile nmC).length := ⟨_, rfl⟩
  have hdl : (s.data.toList.drop p).length = s.size - p := by rw [List.length_drop]; rfl
  have hTl : p + T ≤ s.size := by have := tw_le nmC (s.data.toList.drop p); omega
  have hin : ∀ k, k < T → ∃ h : p + k < s.size, nmC (s[p + k]'h) = true := fun k hk => ⟨by omega, by
    have := tw_at nmC (s.data.toList.drop p) k (by omega) (by omega)
    rw [List.getElem_drop] at this; exact this⟩
  have hst : ∀ (hl : p + T < s.size), nmC (s[p + T]'hl) = false := fun hl => by
    have := tw_stop nmC (s.data.toList.drop p) (by omega)
    rw [List.getElem_drop] at this
    simp only [← hT] at this; exact this
  have hcall : ∀ k (hk : p + k < s.size) W, Calls Tryz.prog 21 #[.string (⟨#[97]⟩ ++ s.extract (p + k) (p + k + 1))] W fun en w' => en = .returned (.bool (nmC (s[p + k]'hk))) ∧ Below W.heap.size W w' := fun k hk W => by
    have := name_c (⟨#[97]⟩ ++ s.extract (p + k) (p + k + 1)) W
    rw [show (ByteArray.mk #[97] ++ s.extract (p + k) (p + k + 1)).data.toList = [97, s[p + k]'hk] from by rw [cat_list, ext_one s (p + k) hk]; rfl] at this
    exact this
  obtain ⟨X, hX⟩ : ∃ X, X = s.extract p (p + T) := ⟨_, rfl⟩
  have hXl : X.data.toList = (s.data.toList.drop p).takeWhile nmC := by rw [hX, mid_list, hT, tw_eq]
  have hlast := fun W => name_c X W
  rw [hXl] at hlast
  obtain ⟨b, hb⟩ : ∃ b, b = nameB ((s.data.toList.drop p).takeWhile nmC) := ⟨_, rfl⟩
  rw [← hb] at hlast
  have hres : (⟨(nameP (s.data.toList.drop p)).toArray⟩ : ByteArray) = if b then X else ⟨#[]⟩ := by
    unfold nameP
    rw [← hb]
    cases b with
    | true => rw [if_pos rfl, ← hXl]; exact ba_eta X
    | false => rfl
  have hlen : (nameP (s.data.toList.drop p)).length = if b then T else 0 := by
    unfold nameP
    rw [← hb]
    cases b with
    | true => simp [hT]
    | false => simp
  have hTl2 : p + T ≤ s.size := hTl
  rw [hres, hlen]
  have HC := Lib.hid (And.intro hcall (And.intro hlast (And.intro hin hst)))
  clear hcall hlast hin hst hXl hres hlen hb hT hdl
  have HX := Lib.hid hX; clear hX
  have c0 := h.c0
  have c1 := h.c1
  have H := Lib.hid h; clear h
  have hp1 : (p : Int) ≤ (s.size : Int) := by omega
  cases b with
  | true =>
    go_enter Tryz.func86, Tryz.ntmps86
    go_wp2_with fail
    go_loopg [3] T (fun g i wr => Below w.heap.size w wr ∧ ∃ k : Nat, k ≤ T ∧ g = T - k ∧ i = .int .i64 (p + k))
    case atStart => exact ⟨Below.refl _ _, 0, Nat.zero_le _, rfl, by simp⟩
    case round =>
      obtain ⟨b1, k, hk, hg, rfl⟩ := hrel
      have HB := Lib.hid (And.intro b1 hg); clear b1 hg
      have d0 := (H.out.below HB.out.1).c0
      have d1 := (H.out.below HB.out.1).c1
      by_cases hlt : k < T
      · have hlt2 : (p : Int) + (k : Int) < (s.size : Int) := by omega
        obtain ⟨hk2, hin⟩ := HC.out.2.2.1 k hlt
        have hcall := HC.out.1 k hk2
        rw [hin] at hcall
        have HK := Lib.hid hcall; clear hcall hin hk2
        go_wp2_with (first | (go_at_call 21; refine (HK.out _).mono ?_; rintro en w2 ⟨rfl, b2⟩))
        go_roundg (T - (k + 1))
        case measure => have := HB.out.2; omega
        case rel => exact ⟨HB.out.1.trans (b2.mono HB.out.1.size), k + 1, by omega, rfl, by go_num⟩
      · obtain rfl : k = T := by omega
        by_cases hend : p + k < s.size
        · have hlt2 : (p : Int) + (k : Int) < (s.size : Int) := by omega
          have hcall := HC.out.1 k hend
          rw [HC.out.2.2.2 hend] at hcall
          have HK := Lib.hid hcall; clear hcall
          go_wp2_with (first | (go_at_call 21; refine (HK.out _).mono ?_; rintro en w2 ⟨rfl, b2⟩; have d2 := (H.out.below (HB.out.1.trans (b2.mono HB.out.1.size))).c0; have d3 := (H.out.below (HB.out.1.trans (b2.mono HB.out.1.size))).c1))
          go_quiet (fail)
          rw [← HX.out]
          go_wp2_with (first | (go_at_call 21; refine (HC.out.2.1 _).mono ?_; rintro en w3 ⟨rfl, b3⟩; have hr := ((H.out.below (HB.out.1.trans (b2.mono HB.out.1.size))).drewN nq).below b3; have f1 := hr.fz 1; have e1 := hr.c1))
          go_ret
          exact ⟨rfl, hr.set1 _ _ (by simp), (((grown_below HB.out.1 (some R)).trans (grown_below b2 _)).trans (grown_drewN _ _ _)).trans ((grown_below b3 _).trans (grown_set _ _ _ _))⟩
        · have hlt2 : (s.size : Int) ≤ (p : Int) + (k : Int) := by omega
          have hlt3 : decide ((p : Int) + (k : Int) < (s.size : Int)) = false := decide_eq_false (by omega)
          go_wp2_with fail
          go_quiet (fail)
          rw [← HX.out]
          go_wp2_with (first | (go_at_call 21; refine (HC.out.2.1 _).mono ?_; rintro en w3 ⟨rfl, b3⟩; have hr := ((H.out.below HB.out.1).drewN nq).below b3; have f1 := hr.fz 1; have e1 := hr.c1))
          go_ret
          exact ⟨rfl, hr.set1 _ _ (by simp), ((grown_below HB.out.1 (some R)).trans (grown_drewN _ _ _)).trans ((grown_below b3 _).trans (grown_set _ _ _ _))⟩
  | false =>
    go_enter Tryz.func86, Tryz.ntmps86
    go_wp2_with fail
    go_loopg [3] T (fun g i wr => Below w.heap.size w wr ∧ ∃ k : Nat, k ≤ T ∧ g = T - k ∧ i = .int .i64 (p + k))
    case atStart => exact ⟨Below.refl _ _, 0, Nat.zero_le _, rfl, by simp⟩
    case round =>
      obtain ⟨b1, k, hk, hg, rfl⟩ := hrel
      have HB := Lib.hid (And.intro b1 hg); clear b1 hg
      have d0 := (H.out.below HB.out.1).c0
      have d1 := (H.out.below HB.out.1).c1
      by_cases hlt : k < T
      · have hlt2 : (p : Int) + (k : Int) < (s.size : Int) := by omega
        obtain ⟨hk2, hin⟩ := HC.out.2.2.1 k hlt
        have hcall := HC.out.1 k hk2
        rw [hin] at hcall
        have HK := Lib.hid hcall; clear hcall hin hk2
        go_wp2_with (first | (go_at_call 21; refine (HK.out _).mono ?_; rintro en w2 ⟨rfl, b2⟩))
        go_roundg (T - (k + 1))
        case measure => have := HB.out.2; omega
        case rel => exact ⟨HB.out.1.trans (b2.mono HB.out.1.size), k + 1, by omega, rfl, by go_num⟩
      · obtain rfl : k = T := by omega
        by_cases hend : p + k < s.size
        · have hlt2 : (p : Int) + (k : Int) < (s.size : Int) := by omega
          have hcall := HC.out.1 k hend
          rw [HC.out.2.2.2 hend] at hcall
          have HK := Lib.hid hcall; clear hcall
          go_wp2_with (first | (go_at_call 21; refine (HK.out _).mono ?_; rintro en w2 ⟨rfl, b2⟩; have d2 := (H.out.below (HB.out.1.trans (b2.mono HB.out.1.size))).c0; have d3 := (H.out.below (HB.out.1.trans (b2.mono HB.out.1.size))).c1))
          go_quiet (fail)
          rw [← HX.out]
          go_wp2_with (first | (go_at_call 21; refine (HC.out.2.1 _).mono ?_; rintro en w3 ⟨rfl, b3⟩; have hr := ((H.out.below (HB.out.1.trans (b2.mono HB.out.1.size))).drewN nq).below b3; have f1 := hr.fz 1; have e1 := hr.c1))
          go_ret
          exact ⟨rfl, hr, (((grown_below HB.out.1 (some R)).trans (grown_below b2 _)).trans (grown_drewN _ _ _)).trans (grown_below b3 _)⟩
        · have hlt2 : (s.size : Int) ≤ (p : Int) + (k : Int) := by omega
          have hlt3 : decide ((p : Int) + (k : Int) < (s.size : Int)) = false := decide_eq_false (by omega)
          go_wp2_with fail
          go_quiet (fail)
          rw [← HX.out]
          go_wp2_with (first | (go_at_call 21; refine (HC.out.2.1 _).mono ?_; rintro en w3 ⟨rfl, b3⟩; have hr := ((H.out.below HB.out.1).drewN nq).below b3; have f1 := hr.fz 1; have e1 := hr.c1))
          go_ret
          exact ⟨rfl, hr, ((grown_below HB.out.1 (some R)).trans (grown_drewN _ _ _)).trans (grown_below b3 _)⟩
end Go.Proofs.YtcicibeggkmlcaaGreatDoor
