/- The walks of the builder of trees: blank, white, done. Conditions: the builder lies in memory as it is made; the marks lie in an older world. The walk of tree.done. Conditions: none. The builder's state within its loop: what each step of a round leaves. Conditions: none. -/
import Derived.Test.YtcicibeggkmlcaaGreatDoorTrC
import Derived.RegionTactic
namespace Go.Proofs.YtcicibeggkmlcaaGreatDoor
open Go.RowKit Go.Sof

theorem dropWhile_all (p : UInt8 → Bool) : ∀ l : Bytes, l.dropWhile p = [] ↔ l.all p = true
  | [] => by simp
  | a :: r => by
    rw [List.dropWhile_cons, List.all_cons]
    cases h : p a with
    | true => simp [dropWhile_all p r]
    | false => simp
theorem dropWhile_head (p : UInt8 → Bool) : ∀ (l : Bytes) (a : UInt8) (r : Bytes), l.dropWhile p = a :: r → p a = false
  | [], a, r, h => by simp at h
  | b :: s, a, r, h => by
    rw [List.dropWhile_cons] at h
    cases hb : p b with
    | true => rw [hb] at h; exact dropWhile_head p s a r (by simpa using h)
    | false => rw [hb] at h; simp at h; rw [← h.1]; exact hb
theorem trim_blank (l : Bytes) : Lib.trimS l [32, 9, 13, 10] = [] ↔ blankB l = true := by
  unfold Lib.trimS Lib.trimLeftS Lib.trimRightS blankB whites
  rw [dropWhile_all]
  constructor
  · intro h
    rw [List.all_reverse] at h
    have : (l.reverse.dropWhile fun x => List.contains [32, 9, 13, 10] x) = [] := by
      cases hd : (l.reverse.dropWhile fun x => List.contains [32, 9, 13, 10] x) with
      | nil => rfl
      | cons a r =>
        have h1 := dropWhile_head _ _ _ _ hd
        rw [hd] at h
        simp only [List.all_cons, h1, Bool.false_and] at h
        exact absurd h (by simp)
    rw [dropWhile_all, List.all_reverse] at this
    exact this
  · intro h
    have : (l.reverse.dropWhile fun x => List.contains [32, 9, 13, 10] x) = [] := by rw [dropWhile_all, List.all_reverse]; exact h
    rw [this]; rfl

set_option maxRecDepth 1000000 in
set_option maxHeartbeats 1000000 in
theorem blank_c (w : World) (s : ByteArray) (hs : s.size ≤ 9223372036854775807) :
    Calls Tryz.prog 90 #[.string s] w fun en w' => en = .returned (.bool (blankB s.data.toList)) ∧ Below w.heap.size w w' := by
  have hc := fun W => Tryz.strings_Trim_asc s ⟨#[32, 9, 13, 10]⟩ W (by omega) (by decide) (by
    intro j b hj
    have : b ∈ [32, 9, 13, 10] := List.mem_of_getElem? hj
    simp only [List.mem_cons, List.not_mem_nil, or_false] at this
    rcases this with rfl | rfl | rfl | rfl <;> decide)
  rw [show (ByteArray.mk #[32, 9, 13, 10]).data.toList = [32, 9, 13, 10] from rfl] at hc
  have hb := trim_blank s.data.toList
  generalize Lib.trimS s.data.toList [32, 9, 13, 10] = t at *
  cases hbb : blankB s.data.toList with
  | true =>
    obtain rfl := hb.2 hbb
    have HC := Lib.hid hc; clear hc hb hbb
    go_enter Tryz.func90, Tryz.ntmps90
    go_wp2_with (first | (go_at_call 76; refine (HC.out _).mono ?_; rintro en w1 ⟨rfl, b1⟩))
    go_ret
    exact ⟨rfl, b1⟩
  | false =>
    have ht : t ≠ [] := fun e => by rw [hb.1 e] at hbb; exact absurd hbb (by simp)
    have ht2 : t.isEmpty = false := by simpa using ht
    have HC := Lib.hid hc; clear hc hb hbb
    go_enter Tryz.func90, Tryz.ntmps90
    go_wp2_with (first | (go_at_call 76; refine (HC.out _).mono ?_; rintro en w1 ⟨rfl, b1⟩))
    go_ret
    exact ⟨rfl, b1⟩

theorem Mk5.c1 {w : World} {b : Nat} {K P : Int} {N T : Bytes} {av : Value} (h : Mk5 w b K P N av T) : w.cell? ⟨b, 1, none⟩ = some (.int .i64 P) := by unfold Mk5 at h; unfold World.cell?; rw [h]; rfl

/-- the builder in memory. -/
def Bd (w : World) (R : Nat) (mv : Value) (nx ct E : Int) : Prop := w.heap[R]? = some (.cells #[mv, .int .i64 nx, .int .i64 ct, .int .i64 E] 92 (0, 0))
theorem Bd.lt {w : World} {R : Nat} {mv : Value} {nx ct E : Int} (h : Bd w R mv nx ct E) : R < w.heap.size := (Array.getElem?_eq_some_iff.1 h).1
theorem Bd.c0 {w : World} {R : Nat} {mv : Value} {nx ct E : Int} (h : Bd w R mv nx ct E) : w.cell? ⟨R, 0, none⟩ = some mv := by unfold Bd at h; unfold World.cell?; rw [h]; rfl
theorem Bd.c1 {w : World} {R : Nat} {mv : Value} {nx ct E : Int} (h : Bd w R mv nx ct E) : w.cell? ⟨R, 1, none⟩ = some (.int .i64 nx) := by unfold Bd at h; unfold World.cell?; rw [h]; rfl
theorem Bd.c2 {w : World} {R : Nat} {mv : Value} {nx ct E : Int} (h : Bd w R mv nx ct E) : w.cell? ⟨R, 2, none⟩ = some (.int .i64 ct) := by unfold Bd at h; unfold World.cell?; rw [h]; rfl
theorem Bd.c3 {w : World} {R : Nat} {mv : Value} {nx ct E : Int} (h : Bd w R mv nx ct E) : w.cell? ⟨R, 3, none⟩ = some (.int .i64 E) := by unfold Bd at h; unfold World.cell?; rw [h]; rfl
theorem Bd.fz {w : World} {R : Nat} {mv : Value} {nx ct E : Int} (h : Bd w R mv nx ct E) (i : Nat) : w.frozen? ⟨R, i, none⟩ = false := by unfold Bd at h; unfold World.frozen?; rw [h]; simp
theorem Bd.below {w w' : World} {R : Nat} {mv : Value} {nx ct E : Int} (h : Bd w R mv nx ct E) (hb : Below w.heap.size w w') : Bd w' R mv nx ct E := (hb.block R h.lt).trans h
theorem Bd.grown {w w' : World} {R : Nat} {mv : Value} {nx ct E : Int} {row : Option Nat} (h : Bd w R mv nx ct E) (hb : w.grownBy w' row) (hr : some R ≠ row) : Bd w' R mv nx ct E := (hb.block R h.lt hr).trans h
theorem Bd.set1 {w : World} {R : Nat} {mv : Value} {nx ct E : Int} (h : Bd w R mv nx ct E) (q x : Int) (hx : x = q) : Bd (w.setCell ⟨R, 1, none⟩ (.int .i64 x)) R mv q ct E := by
  subst hx; exact heap_setCell_same w R 1 _ _ _ h
theorem Bd.set2 {w : World} {R : Nat} {mv : Value} {nx ct E : Int} (h : Bd w R mv nx ct E) (q x : Int) (hx : x = q) : Bd (w.setCell ⟨R, 2, none⟩ (.int .i64 x)) R mv nx q E := by
  subst hx; exact heap_setCell_same w R 2 _ _ _ h

/-- where white marks end. -/
def atW : List PMark → Int
  | [] => -1
  | m :: _ => m.pos

set_option maxRecDepth 1000000 in
set_option maxHeartbeats 4000000 in
theorem white_c (w0 : World) (p : Option Addr) (c : Nat) (ms : List PMark) (hm : MarksF w0 p ms) (hl : ms.length ≤ 65536) (hz : ∀ m ∈ ms, m.text.length ≤ 262144) (w : World) (R k : Nat) (ct E : Int)
    (hbd : Bd w R (.slice p ms.length c) k ct E) (hk0 : k ≤ ms.length) (hlow : Below w0.heap.size w0 w) (hR : w0.heap.size ≤ R) :
    Calls Tryz.prog 64 #[.pointer (some ⟨R, 0, none⟩)] w fun en w' => en = .returned (.int .i64 (atW (skipW (ms.drop k)))) ∧ ∃ k', k ≤ k' ∧ k' ≤ ms.length ∧ ms.drop k' = skipW (ms.drop k) ∧ Bd w' R (.slice p ms.length c) k' ct E ∧ w.grownBy w' (some R) := by
  obtain ⟨n, hn⟩ : ∃ n, n = ms.length := ⟨_, rfl⟩
  rw [← hn] at hl hk0 hbd ⊢
  obtain ⟨X, hX⟩ : ∃ X, X = skipW (ms.drop k) := ⟨_, rfl⟩
  rw [← hX]
  have HF := Lib.hid (And.intro hm (And.intro hz (And.intro hlow (And.intro hR (And.intro hn (And.intro hX (And.intro hbd hk0))))))); clear hm hz hlow hR hn hX hbd hk0
  go_enter Tryz.func64, Tryz.ntmps64
  go_wp2_with fail
  go_loopg [] (n - k) (fun g wr => ∃ k' : Nat, k ≤ k' ∧ k' ≤ n ∧ g = n - k' ∧ Bd wr R (.slice p n c) k' ct E ∧ w.grownBy wr (some R) ∧ skipW (ms.drop k') = X)
  case atStart => exact ⟨k, Nat.le_refl _, HF.out.2.2.2.2.2.2.2, rfl, HF.out.2.2.2.2.2.2.1, ⟨rfl, rfl, rfl, Nat.le_refl _, fun _ _ _ => rfl⟩, HF.out.2.2.2.2.2.1.symm⟩
  case round =>
    obtain ⟨k', h1, h2, hg, hbd, hgr, hx⟩ := hrel
    have c0 := hbd.c0; have c1 := hbd.c1; have f1 := hbd.fz 1
    have hRlt := hbd.lt
    by_cases hlt : k' < n
    · have hkI : (k' : Int) < (n : Int) := by omega
      have hka : k' < ms.length := by rw [← HF.out.2.2.2.2.1]; exact hlt
      have hdk := List.drop_eq_getElem_cons hka
      rw [hdk] at hx
      have hlw : Below w0.heap.size w0 wr := HF.out.2.2.1.trans ⟨hgr.os, hgr.tape, hgr.output, hgr.size, fun j hj => hgr.block j (Nat.lt_of_lt_of_le hj HF.out.2.2.1.size) (fun e => by have := HF.out.2.2.2.1; simp only [Option.some.injEq] at e; omega)⟩
      obtain ⟨g0, o0, rfl, b0, b1, b2, b4, pa, ca, b3, _⟩ := HF.out.1 k' hka
      have a0 := cell_keep hlw b0; have a1 := cell_keep hlw b1; have a2 := cell_keep hlw b2; have a3 := cell_keep hlw b3; have a4 := cell_keep hlw b4
      clear b0 b1 b2 b3 b4
      have hglt : g0 < wr.heap.size := World.block_lt_of_cell? wr _ a0
      have hzm := HF.out.2.1 _ (List.getElem_mem hka)
      generalize ms[k']'hka = m at *
      obtain ⟨K, P, N, al, T⟩ := m
      simp only at a0 a1 a2 a3 a4 hzm
      have HB := Lib.hid (And.intro hbd (And.intro hgr (And.intro hx (And.intro hg (And.intro hzm hdk))))); clear hbd hgr hx hg hzm hlw hdk
      go_wp2_with fail
      go_quiet (fail)
      go_wp2_with fail
      obtain ⟨wx, hwx⟩ : ∃ wx, wx = wr.drewN nq := ⟨_, rfl⟩
      rw [← hwx]
      have hbx : Below wr.heap.size wr wx := by rw [hwx]; exact ⟨rfl, rfl, rfl, Nat.le_refl _, fun _ _ => rfl⟩
      have c0 := cell_keep hbx c0; have c1 := cell_keep hbx c1
      have a0 := cell_keep hbx a0; have a1 := cell_keep hbx a1; have a2 := cell_keep hbx a2; have a3 := cell_keep hbx a3; have a4 := cell_keep hbx a4
      have hRlt : R < wx.heap.size := Nat.lt_of_lt_of_le hRlt hbx.size
      have hglt : g0 < wx.heap.size := Nat.lt_of_lt_of_le hglt hbx.size
      have HXX := Lib.hid hbx; clear hbx hwx f1
      apply join
      · intro key
        go_region
        all_goals (exact key.out)
      have hg2 := (HB.out.2.1.trans (grown_below HXX.out (some R)))
      obtain ⟨wy, hwy⟩ : ∃ wy, wy = (wx.alloc (.cells #[.int .i64 K, .int .i64 P, .string ⟨N.toArray⟩, .slice pa al.length ca, .string ⟨T.toArray⟩] 41)).drew := ⟨_, rfl⟩
      rw [← hwy]
      have hby : Below wx.heap.size wx wy := by rw [hwy]; exact ((Below.refl _ wx).alloc (Nat.le_refl _) _).drew
      have hM : Mk5 wy wx.heap.size K P N (.slice pa al.length ca) T := by rw [hwy]; exact Mk5.new wx K P N _ T
      have hbd := (HB.out.1.below HXX.out).below hby
      have hgy := hg2.trans (grown_below hby (some R))
      clear c0 c1 a0 a1 a2 a3 a4 hg2 hwy
      have d0 := hM.c0; have d1 := hM.c1; have d4 := hM.c4
      have c0 := hbd.c0; have c1 := hbd.c1; have f1 := hbd.fz 1
      have hRy := hbd.lt
      have hz4 := HB.out.2.2.2.2.1
      have hbl := blank_c wy ⟨T.toArray⟩ (by show T.toArray.size ≤ _; rw [List.size_toArray]; omega)
      rw [show (⟨T.toArray⟩ : ByteArray).data.toList = T from rfl] at hbl
      have HY := Lib.hid (And.intro hbd hgy); clear hbd hgy hby hM hz4
      have hx := HB.out.2.2.1
      unfold skipW at hx
      by_cases h3 : K = 3
      · subst h3
        cases hT : blankB T with
        | true =>
          rw [if_pos ⟨rfl, hT⟩] at hx
          rw [hT] at hbl
          have HC := Lib.hid (And.intro hbl hx); clear hbl hx hT
          go_wp2_with (first | (go_at_call 90; refine HC.out.1.mono ?_; rintro en w3 ⟨rfl, b3⟩; have hb3 := HY.out.1.below b3; have e1 := hb3.c1; have g1 := hb3.fz 1))
          go_roundg (n - (k' + 1))
          case measure => have := HB.out.2.2.2.1; omega
          case rel =>
            exact ⟨k' + 1, by omega, by omega, rfl, hb3.set1 _ _ (by go_num), (HY.out.2.trans (grown_below b3 (some R))).trans (grown_set _ _ _ _), HC.out.2⟩
        | false =>
          rw [if_neg (by rw [hT]; simp)] at hx
          rw [hT] at hbl
          have HC := Lib.hid (And.intro hbl hx); clear hbl hx hT
          go_wp2_with (first | (go_at_call 90; refine HC.out.1.mono ?_; rintro en w3 ⟨rfl, b3⟩; have hb3 := HY.out.1.below b3; have e1 := cell_keep b3 d1))
          go_ret
          exact ⟨by rw [← HC.out.2]; rfl, k', h1, h2, by rw [← HC.out.2]; exact HB.out.2.2.2.2.2, hb3, HY.out.2.trans (grown_below b3 (some R))⟩
      · rw [if_neg (fun h => h3 h.1)] at hx
        have k3 : (K == 3) = false := by rw [beq_eq_false_iff_ne]; exact h3
        have HC := Lib.hid hx; clear hbl hx
        go_wp2_with fail
        go_ret
        exact ⟨by rw [← HC.out]; rfl, k', h1, h2, by rw [← HC.out]; exact HB.out.2.2.2.2.2, HY.out.1, HY.out.2⟩
    · obtain rfl : k' = n := by omega
      have hd0 : ms.drop k' = [] := by rw [HF.out.2.2.2.2.1]; exact List.drop_length
      rw [hd0] at hx
      have hx : [] = X := hx
      have hkI : decide ((k' : Int) < (k' : Int)) = false := by simp
      have HB := Lib.hid (And.intro hbd (And.intro hgr (And.intro hx hd0))); clear hbd hgr hx hd0 hg
      go_wp2_with fail
      go_quiet (fail)
      go_wp2_with fail
      go_ret
      exact ⟨by rw [← HB.out.2.2.1]; rfl, k', h1, Nat.le_refl _, by rw [← HB.out.2.2.1]; exact HB.out.2.2.2, HB.out.1.below ⟨rfl, rfl, rfl, Nat.le_refl _, fun _ _ => rfl⟩, HB.out.2.1.trans (grown_drewN _ _ _)⟩
end Go.Proofs.YtcicibeggkmlcaaGreatDoor

namespace Go.Proofs.YtcicibeggkmlcaaGreatDoor
open Go.RowKit Go.Sof

theorem below_set5 {B r : Nat} {a b : World} (h : Below B a b) (hr : B ≤ r) (v0 v1 v2 v3 v4 : Value) : Below B a (((((b.setCell ⟨r, 0, none⟩ v0).setCell ⟨r, 1, none⟩ v1).setCell ⟨r, 2, none⟩ v2).setCell ⟨r, 3, none⟩ v3).setCell ⟨r, 4, none⟩ v4) :=
  ((((h.setCell (p := ⟨r, 0, none⟩) hr _).setCell (p := ⟨r, 1, none⟩) hr _).setCell (p := ⟨r, 2, none⟩) hr _).setCell (p := ⟨r, 3, none⟩) hr _).setCell (p := ⟨r, 4, none⟩) hr _

set_option maxRecDepth 1000000 in
set_option maxHeartbeats 1000000 in
theorem done_c (w : World) (N : Bytes) (P : Int) (va : Value) (hva : va.oneCell' = true) (pk : Option Addr) (c ck : Nat) (T : Bytes) (hs : T.length ≤ 9223372036854775807) (pa : Option Addr) (al ca : Nat) (hav : va = .slice pa al ca) :
    Calls Tryz.prog 91 #[.agg #[.string ⟨N.toArray⟩, .int .i64 P, va, .slice pk c ck, .string ⟨T.toArray⟩]] w fun en w' => en = .returned (.tuple #[.agg #[.string ⟨N.toArray⟩, .int .i64 P, va, .slice pk c ck, .string ⟨(if 0 < c ∧ blankB T = true then [] else T).toArray⟩], .bool (decide (¬(0 < c ∧ blankB T = false)))]) ∧ Below w.heap.size w w' := by
  subst hav
  have hbl := fun W => blank_c W ⟨T.toArray⟩ (by show T.toArray.size ≤ _; rw [List.size_toArray]; omega)
  rw [show (⟨T.toArray⟩ : ByteArray).data.toList = T from rfl] at hbl
  have HC := Lib.hid hbl; clear hbl
  by_cases hc : c = 0
  · subst hc
    rw [if_neg (by simp), show decide (¬(0 < 0 ∧ blankB T = false)) = true from by simp]
    clear HC hs
    go_enter Tryz.func91, Tryz.ntmps91
    go_wp2_with fail
    refine bodyPost_ret (by simp [results, Tryz.results91, go_sem]; try rfl) rfl ?_
    exact ⟨rfl, ((Below.refl _ w).alloc (Nat.le_refl _) _).alloc (by simp) _⟩
  · have hcI : (0 : Int) < (c : Int) := by omega
    have hE : Nd5 ((w.alloc (.cells #[.string ⟨N.toArray⟩, .int .i64 P, .slice pa al ca, .slice pk c ck, .string ⟨T.toArray⟩] 47)).alloc (.cells #[.string ⟨#[]⟩, .int .i64 0, .slice none 0 0, .slice none 0 0, .string ⟨#[]⟩] 47)) w.heap.size N P (.slice pa al ca) (.slice pk c ck) T := (Nd5.new w N P (.slice pa al ca) (.slice pk c ck) T).below ((Below.refl _ _).alloc (Nat.le_refl _) _)
    have hR : Nd5 ((w.alloc (.cells #[.string ⟨N.toArray⟩, .int .i64 P, .slice pa al ca, .slice pk c ck, .string ⟨T.toArray⟩] 47)).alloc (.cells #[.string ⟨#[]⟩, .int .i64 0, .slice none 0 0, .slice none 0 0, .string ⟨#[]⟩] 47)) (w.heap.size + 1) [] 0 (.slice none 0 0) (.slice none 0 0) [] := by
      have := Nd5.new (w.alloc (.cells #[.string ⟨N.toArray⟩, .int .i64 P, .slice pa al ca, .slice pk c ck, .string ⟨T.toArray⟩] 47)) [] 0 (.slice none 0 0) (.slice none 0 0) []
      rw [show (w.alloc (.cells #[.string ⟨N.toArray⟩, .int .i64 P, .slice pa al ca, .slice pk c ck, .string ⟨T.toArray⟩] 47)).heap.size = w.heap.size + 1 from by simp] at this
      exact this
    have HE := Lib.hid (And.intro hE hR); clear hE hR
    have hBB : Below w.heap.size w ((w.alloc (.cells #[.string ⟨N.toArray⟩, .int .i64 P, .slice pa al ca, .slice pk c ck, .string ⟨T.toArray⟩] 47)).alloc (.cells #[.string ⟨#[]⟩, .int .i64 0, .slice none 0 0, .slice none 0 0, .string ⟨#[]⟩] 47)) := ((Below.refl _ w).alloc (Nat.le_refl _) _).alloc (by simp) _
    have HB := Lib.hid hBB; clear hBB
    cases hb : blankB T with
    | true =>
      rw [if_pos ⟨by omega, rfl⟩, show decide (¬(0 < c ∧ true = false)) = true from by simp]
      rw [hb] at HC
      clear hs hb
      go_enter Tryz.func91, Tryz.ntmps91
      go_wp2_with (first | (go_at_call 90; refine (HC.out _).mono ?_; rintro en w1 ⟨rfl, b1⟩; have q := HE.out.1.below b1; have r := HE.out.2.below b1; have q0 := q.c0; have q1 := q.c1; have q2 := q.c2; have q3 := q.c3; have q4 := q.c4; have r0 := r.c0; have r1 := r.c1; have r2 := r.c2; have r3 := r.c3; have r4 := r.c4; have f4 := q.fz 4; have g0 := r.fz 0; have g1 := r.fz 1; have g2 := r.fz 2; have g3 := r.fz 3; have g4 := r.fz 4; clear q r))
      refine bodyPost_ret (by simp [results, Tryz.results91, go_sem, r0, r1, r2, r3, r4]; try rfl) rfl ?_
      exact ⟨rfl, below_set5 ((HB.out.trans (b1.mono HB.out.size)).setCell (p := ⟨w.heap.size, 4, none⟩) (Nat.le_refl _) _) (by omega) _ _ _ _ _⟩
    | false =>
      rw [if_neg (by simp), show decide (¬(0 < c ∧ false = false)) = false from by simp; omega]
      rw [hb] at HC
      clear hs hb
      go_enter Tryz.func91, Tryz.ntmps91
      go_wp2_with (first | (go_at_call 90; refine (HC.out _).mono ?_; rintro en w1 ⟨rfl, b1⟩; have q := HE.out.1.below b1; have r := HE.out.2.below b1; have q0 := q.c0; have q1 := q.c1; have q2 := q.c2; have q3 := q.c3; have q4 := q.c4; have r0 := r.c0; have r1 := r.c1; have r2 := r.c2; have r3 := r.c3; have r4 := r.c4; have f4 := q.fz 4; have g0 := r.fz 0; have g1 := r.fz 1; have g2 := r.fz 2; have g3 := r.fz 3; have g4 := r.fz 4; clear q r))
      refine bodyPost_ret (by simp [results, Tryz.results91, go_sem, r0, r1, r2, r3, r4]; try rfl) rfl ?_
      exact ⟨rfl, below_set5 (HB.out.trans (b1.mono HB.out.size)) (by omega) _ _ _ _ _⟩
end Go.Proofs.YtcicibeggkmlcaaGreatDoor

namespace Go.Proofs.YtcicibeggkmlcaaGreatDoor
open Go.RowKit Go.Sof

/-- a block that holds attributes. -/
def AtB (w0 : World) (g : Nat) : Prop := ∃ q s1 s2, w0.cell? ⟨g, q, none⟩ = some (.string s1) ∧ w0.cell? ⟨g, q + 1, none⟩ = some (.string s2)
theorem AtB.lt {w0 : World} {g : Nat} (h : AtB w0 g) : g < w0.heap.size := by
  obtain ⟨q, s1, s2, h1, _⟩ := h
  exact World.block_lt_of_cell? w0 _ h1
def NPost (w0 w : World) (R : Nat) (mv : Value) (E : Int) (ms : List PMark) (k : Nat) (x : Except TErr (PNode × List PMark × Nat)) (en : Ending) (w' : World) : Prop :=
  match x with
  | .error (a, e) => ∃ (s0 : ByteArray) (i1 : Int) (p2 : Option Addr) (l2 c2 : Nat) (p3 : Option Addr) (l3 c3 : Nat) (s4 : ByteArray) (k' ct' : Int), en = .returned (.tuple #[.agg #[.string s0, .int .i64 i1, .slice p2 l2 c2, .slice p3 l3 c3, .string s4], .int .i64 a, .int .i64 e]) ∧ e ≠ 0 ∧ Bd w' R mv k' ct' E ∧ w.grownBy w' (some R)
  | .ok (n, rest, ct) => ∃ pa ca pk ck k', en = .returned (.tuple #[nodeV n pa ca pk ck, .int .i64 0, .int .i64 0]) ∧ NodeR w' (fun g => AtB w0 g ∨ w.heap.size ≤ g) (nodeV n pa ca pk ck) n ∧ k < k' ∧ k' ≤ ms.length ∧ ms.drop k' = rest ∧ ct ≤ 4096 ∧
      Bd w' R mv (k' : Nat) (ct : Nat) E ∧ w.grownBy w' (some R)
theorem Nd5.grown {w w' : World} {b R : Nat} {N : Bytes} {P : Int} {va vk : Value} {T : Bytes} (h : Nd5 w b N P va vk T) (hg : w.grownBy w' (some R)) (hb : b ≠ R) : Nd5 w' b N P va vk T := (hg.block b h.lt (fun e => hb (by simpa using e))).trans h
theorem Mk5.lt {w : World} {b : Nat} {K P : Int} {N T : Bytes} {av : Value} (h : Mk5 w b K P N av T) : b < w.heap.size := (Array.getElem?_eq_some_iff.1 h).1
theorem Mk5.grown {w w' : World} {b R : Nat} {K P : Int} {N T : Bytes} {av : Value} (h : Mk5 w b K P N av T) (hg : w.grownBy w' (some R)) (hb : b ≠ R) : Mk5 w' b K P N av T := (hg.block b h.lt (fun e => hb (by simpa using e))).trans h
theorem heap_set_ne (w : World) {b r : Nat} (i : Nat) (v : Value) (h : b ≠ r) : (w.setCell ⟨r, i, none⟩ v).heap[b]? = w.heap[b]? := Below.heap_setCell w ⟨r, i, none⟩ v b h
def set5 (w : World) (r : Nat) (v0 v1 v2 v3 v4 : Value) : World := ((((w.setCell ⟨r, 0, none⟩ v0).setCell ⟨r, 1, none⟩ v1).setCell ⟨r, 2, none⟩ v2).setCell ⟨r, 3, none⟩ v3).setCell ⟨r, 4, none⟩ v4
theorem heap_set5_ne (w : World) {b r : Nat} (v0 v1 v2 v3 v4 : Value) (h : b ≠ r) : (set5 w r v0 v1 v2 v3 v4).heap[b]? = w.heap[b]? := by
  unfold set5
  rw [heap_set_ne _ _ _ h, heap_set_ne _ _ _ h, heap_set_ne _ _ _ h, heap_set_ne _ _ _ h, heap_set_ne _ _ _ h]
theorem fin5 {w wX : World} {R r : Nat} {mv : Value} {nx ct E : Int} (h : Bd wX R mv nx ct E) (hg : w.grownBy wX (some R)) (hr : r ≠ R) (hrw : w.heap.size ≤ r) (v0 v1 v2 v3 v4 : Value) :
    Bd (set5 wX r v0 v1 v2 v3 v4) R mv nx ct E ∧ w.grownBy (set5 wX r v0 v1 v2 v3 v4) (some R) := by
  have hb : Below w.heap.size wX (set5 wX r v0 v1 v2 v3 v4) := below_set5 (Below.refl _ _) hrw v0 v1 v2 v3 v4
  exact ⟨(heap_set5_ne wX v0 v1 v2 v3 v4 (fun e => hr e.symm)).trans h, ⟨hb.os.trans hg.os, hb.tape.trans hg.tape, hb.output.trans hg.output, Nat.le_trans hg.size hb.size, fun k hk hne => (hb.block k hk).trans (hg.block k hk hne)⟩⟩
theorem ba_app (a b : Bytes) : ((⟨a.toArray⟩ : ByteArray) ++ (⟨b.toArray⟩ : ByteArray)) = ⟨(a ++ b).toArray⟩ := by
  apply ByteArray.ext
  simp
theorem attrsQ_of {w0 w' : World} {p : Option Addr} {al : List PAttr} (h : AttrsF w0 p al) (hb : Below w0.heap.size w0 w') (B : Nat) : AttrsQ w' (fun g => AtB w0 g ∨ B ≤ g) p al := fun j hj => by
  obtain ⟨b, o, e, c0, c1⟩ := h j hj
  exact ⟨b, o, e, .inl ⟨_, _, _, c0, c1⟩, cell_keep hb c0, cell_keep hb c1⟩

theorem A_infoN : (Tryz.prog.info? 47).map (fun i => (i.zero.map (fun z => z.cells.size), i.size, decide (i.bytes ≤ 128))) = some (some 5, 5, true) := by kernel_rfl
theorem info_node : ∃ i z bytes, Tryz.prog.info? 47 = some i ∧ i.zero = some z ∧ i.size = 5 ∧ i.bytes = bytes ∧ z.cells.size = 5 ∧ bytes ≤ 128 := by
  have h := A_infoN
  obtain ⟨i, hi, hz⟩ := Option.map_eq_some_iff.1 h
  simp only [Prod.mk.injEq, Option.map_eq_some_iff, decide_eq_true_eq] at hz
  obtain ⟨⟨z, hz0, hz1⟩, hz2, hz3⟩ := hz
  exact ⟨i, z, i.bytes, hi, hz0, hz2, rfl, hz1, hz3⟩
/-- the builder in its loop. -/
structure LI (w0 w : World) (R r nb : Nat) (mv : Value) (E : Int) (N : Bytes) (P : Int) (va : Value) (wr : World) (k ct : Nat) (ks : List PNode) (tx : Bytes) (vk : Value) (xs : List Value) : Prop where
  bd : Bd wr R mv (k : Nat) (ct : Nat) E
  gr : w.grownBy wr (some R)
  nd : Nd5 wr nb N P va vk tx
  rd : Nd5 wr r [] 0 (.slice none 0 0) (.slice none 0 0) []
  own : wr.ownsRow (nb + 1) 47 5 vk ks.length xs
  kx : KidsX wr (fun g => AtB w0 g ∨ (nb + 1 ≤ g ∧ some g ≠ vk.ownBlock)) ks xs
  o0 : w0.heap.size ≤ R
  o1 : R < w.heap.size
  o2 : r = w.heap.size
  o3 : r < nb

section
variable {w0 w : World} {R r nb : Nat} {mv : Value} {E : Int} {N : Bytes} {P : Int} {va : Value} {wr : World} {k ct : Nat} {ks : List PNode} {tx : Bytes} {vk : Value} {xs : List Value}
/-- other blocks than the builder's and the element's stay. -/
theorem LI.move (h : LI w0 w R r nb mv E N P va wr k ct ks tx vk xs) {wz : World} {k' ct' : Nat} {tx' : Bytes} (hk : ∀ g, g < wr.heap.size → g ≠ R → g ≠ nb → wz.heap[g]? = wr.heap[g]?) (hos : wz.os = wr.os) (ht : wz.tape = wr.tape) (ho : wz.output = wr.output)
    (hs : wr.heap.size ≤ wz.heap.size) (bd : Bd wz R mv (k' : Nat) (ct' : Nat) E) (nd : Nd5 wz nb N P va vk tx') : LI w0 w R r nb mv E N P va wz k' ct' ks tx' vk xs := by
  have e0 := h.o0; have e1 := h.o1; have e2 := h.o2; have e3 := h.o3
  refine ⟨bd, ⟨hos.trans h.gr.os, ht.trans h.gr.tape, ho.trans h.gr.output, Nat.le_trans h.gr.size hs, fun g hg hne => ?_⟩, nd, ?_, ?_, ?_, e0, e1, e2, e3⟩
  · rw [hk g (Nat.lt_of_lt_of_le hg h.gr.size) (fun e => hne (by rw [e])) (by omega)]; exact h.gr.block g hg hne
  · exact (hk r h.rd.lt (by omega) (by omega)).trans h.rd
  · exact ownsRow_keep h.own (fun g hg => by
      obtain ⟨h1, cur, h2⟩ := own_block h.own g hg
      exact hk g (Array.getElem?_eq_some_iff.1 h2).1 (by omega) (by omega))
  · exact h.kx.move (fun g hq hg => ⟨hk g hg (hq.elim (fun h => by have := h.lt; omega) (fun h => by omega)) (hq.elim (fun h => by have := h.lt; omega) (fun h => by omega)), hq⟩)
theorem LI.below (h : LI w0 w R r nb mv E N P va wr k ct ks tx vk xs) {wz : World} (hb : Below wr.heap.size wr wz) : LI w0 w R r nb mv E N P va wz k ct ks tx vk xs :=
  h.move (fun g hg _ _ => hb.block g hg) hb.os hb.tape hb.output hb.size (h.bd.below hb) (h.nd.below hb)
theorem LI.next (h : LI w0 w R r nb mv E N P va wr k ct ks tx vk xs) (x : Int) (hx : x = ((k + 1 : Nat) : Int)) : LI w0 w R r nb mv E N P va (wr.setCell ⟨R, 1, none⟩ (.int .i64 x)) (k + 1) ct ks tx vk xs :=
  h.move (fun g _ h1 _ => heap_set_ne wr 1 _ h1) rfl rfl rfl (by simp) (h.bd.set1 _ _ hx) ((heap_set_ne wr 1 _ (by have := h.o1; have := h.o2; have := h.o3; omega)).trans h.nd)
theorem LI.text (h : LI w0 w R r nb mv E N P va wr k ct ks tx vk xs) (S : ByteArray) (T : Bytes) (hS : S = ⟨(tx ++ T).toArray⟩) : LI w0 w R r nb mv E N P va (wr.setCell ⟨nb, 4, none⟩ (.string S)) k ct ks (tx ++ T) vk xs := by
  subst hS
  have := h.o1; have := h.o2; have := h.o3
  exact h.move (fun g _ _ h2 => heap_set_ne wr 4 _ h2) rfl rfl rfl (by simp) ((heap_set_ne wr 4 _ (by omega)).trans h.bd) (heap_setCell_same wr nb 4 _ _ _ h.nd)
theorem LI.call (h : LI w0 w R r nb mv E N P va wr k ct ks tx vk xs) {wz : World} {k' ct' : Nat} (hg : wr.grownBy wz (some R)) (bd : Bd wz R mv (k' : Nat) (ct' : Nat) E) : LI w0 w R r nb mv E N P va wz k' ct' ks tx vk xs :=
  h.move (fun g hg' h1 _ => hg.block g hg' (fun e => h1 (by simpa using e))) hg.os hg.tape hg.output hg.size bd (h.nd.grown hg (by have := h.o1; have := h.o2; have := h.o3; omega))
theorem LI.push (h : LI w0 w R r nb mv E N P va wr k ct ks tx vk xs) {w4 w5 : World} {v' : Value} {kid : PNode} {u0 u1 u2 u3 u4 : Value} (hA : Below wr.heap.size wr w4) (hg : w4.grownBy w5 vk.ownBlock)
    (hown : w5.ownsRow (nb + 1) 47 5 v' (ks.length + 1) (xs ++ [u0, u1, u2, u3, u4])) (hb : v'.ownBlock = vk.ownBlock ∨ v'.ownBlock = some w4.heap.size)
    (hn : NodeR wr (fun g => AtB w0 g ∨ (nb + 1 ≤ g ∧ some g ≠ vk.ownBlock)) (.agg #[u0, u1, u2, u3, u4]) kid) :
    LI w0 w R r nb mv E N P va (w5.setCell ⟨nb, 3, none⟩ v') k ct (ks ++ [kid]) tx v' (xs ++ [u0, u1, u2, u3, u4]) := by
  have e0 := h.o0; have e1 := h.o1; have e2 := h.o2; have e3 := h.o3
  have hne : ∀ g, g < wr.heap.size → some g ≠ vk.ownBlock → w5.heap[g]? = wr.heap[g]? := fun g h1 h2 => by
    rw [hg.block g (Nat.lt_of_lt_of_le h1 hA.size) h2]; exact hA.block g h1
  have hlow : ∀ g, g ≤ nb → some g ≠ vk.ownBlock := fun g h1 e => by have := (own_block h.own g e.symm).1; omega
  have hsz : wr.heap.size ≤ (w5.setCell ⟨nb, 3, none⟩ v').heap.size := by simpa using Nat.le_trans hA.size hg.size
  have hmv : ∀ g, (AtB w0 g ∨ (nb + 1 ≤ g ∧ some g ≠ vk.ownBlock)) → g < wr.heap.size → (w5.setCell ⟨nb, 3, none⟩ v').heap[g]? = wr.heap[g]? ∧ (AtB w0 g ∨ (nb + 1 ≤ g ∧ some g ≠ v'.ownBlock)) := by
    intro g hq hgl
    have hgo : some g ≠ vk.ownBlock := by
      rcases hq with h1 | h1
      · have := h1.lt; exact hlow g (by omega)
      · exact h1.2
    have hgn : g ≠ nb := by
      rcases hq with h1 | h1
      · have := h1.lt; omega
      · omega
    refine ⟨by rw [heap_set_ne w5 3 _ hgn]; exact hne g hgl hgo, ?_⟩
    rcases hq with h1 | h1
    · exact .inl h1
    · refine .inr ⟨h1.1, ?_⟩
      rcases hb with hb | hb
      · rw [hb]; exact h1.2
      · rw [hb]; intro e; simp only [Option.some.injEq] at e; have := hA.size; omega
  refine ⟨?_, ⟨hg.os.trans (hA.os.trans h.gr.os), hg.tape.trans (hA.tape.trans h.gr.tape), hg.output.trans (hA.output.trans h.gr.output), Nat.le_trans h.gr.size hsz, fun g hg' hn' => ?_⟩, ?_, ?_, ?_, ?_, e0, e1, e2, e3⟩
  · exact (heap_set_ne w5 3 _ (by omega)).trans ((hne R h.bd.lt (hlow R (by omega))).trans h.bd)
  · rw [heap_set_ne w5 3 _ (by omega), hne g (Nat.lt_of_lt_of_le hg' h.gr.size) (hlow g (by omega))]; exact h.gr.block g hg' hn'
  · exact heap_setCell_same w5 nb 3 _ _ _ ((hne nb h.nd.lt (hlow nb (Nat.le_refl _))).trans h.nd)
  · exact (heap_set_ne w5 3 _ (by omega)).trans ((hne r h.rd.lt (hlow r (by omega))).trans h.rd)
  · rw [List.length_append]; exact ownsRow_setCell_below hown (by show nb < nb + 1; omega) _
  · exact (h.kx.move hmv).snoc (hn.move hmv)
/-- the element that is read, behind the builder. -/
theorem LI.node (h : LI w0 w R r nb mv E N P va wr k ct ks tx vk xs) {pa : Option Addr} {ca : Nat} {al : List PAttr} (hca : al.length ≤ ca) (hA : AttrsF w0 pa al) (hlow : Below w0.heap.size w0 w) (T : Bytes) {pk : Option Addr} {ck : Nat} (hv : vk = .slice pk ks.length ck) :
    NodeR wr (fun g => AtB w0 g ∨ nb + 1 ≤ g) (nodeV (.mk N P al ks T) pa ca pk ck) (.mk N P al ks T) := by
  have e1 := h.o1; have e2 := h.o2; have e3 := h.o3; have e0 := h.o0
  have hck : ks.length ≤ ck := by
    obtain ⟨pk', ck', hv', hck⟩ := node_form h.own
    rw [hv] at hv'
    simp only [Value.slice.injEq] at hv'
    obtain ⟨_, _, rfl⟩ := hv'
    exact hck
  have hkx := h.kx
  have hown := h.own
  rw [hv] at hown
  obtain ⟨d, hd⟩ := kidsX_read (Q' := fun g => AtB w0 g ∨ nb + 1 ≤ g) hown hkx (fun g hq _ => by rcases hq with h1 | h1; exact .inl h1; exact .inr h1.1) (fun g hg => .inr hg)
  have hb : Below w0.heap.size w0 wr := hlow.trans ⟨h.gr.os, h.gr.tape, h.gr.output, h.gr.size, fun g hg => h.gr.block g (Nat.lt_of_lt_of_le hg hlow.size) (fun e => by simp only [Option.some.injEq] at e; omega)⟩
  exact ⟨d + 1, pa, ca, pk, ck, rfl, hca, hck, attrsQ_of hA hb _, hd⟩
theorem LI.low (h : LI w0 w R r nb mv E N P va wr k ct ks tx vk xs) (hlow : Below w0.heap.size w0 w) : Below w0.heap.size w0 wr := by
  have e1 := h.o1; have e0 := h.o0
  exact hlow.trans ⟨h.gr.os, h.gr.tape, h.gr.output, h.gr.size, fun g hg => h.gr.block g (Nat.lt_of_lt_of_le hg hlow.size) (fun e => by simp only [Option.some.injEq] at e; omega)⟩
/-- the element's block, when its row has grown. -/
theorem LI.after (h : LI w0 w R r nb mv E N P va wr k ct ks tx vk xs) {w4 w5 : World} (hA : Below wr.heap.size wr w4) (hg : w4.grownBy w5 vk.ownBlock) : Nd5 w5 nb N P va vk tx := by
  have hlow : some nb ≠ vk.ownBlock := fun e => by have := (own_block h.own nb e.symm).1; omega
  exact ((hg.block nb (Nat.lt_of_lt_of_le h.nd.lt hA.size) hlow).trans (hA.block nb h.nd.lt)).trans h.nd
/-- what a kid that was just read is to the builder. -/
theorem LI.kid (h : LI w0 w R r nb mv E N P va wr k ct ks tx vk xs) {w2 : World} {v : Value} {kid : PNode} (hn : NodeR w2 (fun g => AtB w0 g ∨ wr.heap.size ≤ g) v kid) : NodeR w2 (fun g => AtB w0 g ∨ (nb + 1 ≤ g ∧ some g ≠ vk.ownBlock)) v kid :=
  hn.move (fun g hq _ => ⟨rfl, by
    rcases hq with h1 | h1
    · exact .inl h1
    · refine .inr ⟨Nat.le_trans h.nd.lt h1, fun e => ?_⟩
      obtain ⟨_, cur, h2⟩ := own_block h.own g e.symm
      have := (Array.getElem?_eq_some_iff.1 h2).1
      omega⟩)
end
end Go.Proofs.YtcicibeggkmlcaaGreatDoor
