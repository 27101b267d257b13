/- The walk of the builder's node. Conditions: the builder lies in memory as it is made; the marks lie in an older world. -/
import Derived.Test.YtcicibeggkmlcaaGreatDoorTrDJ3
import Derived.Deep.Cut
namespace Go.Proofs.YtcicibeggkmlcaaGreatDoor
open Go.RowKit Go.Sof

theorem loopP_chars {f d c : Nat} {E : Int} {m x : PMark} {ks : List PNode} {tx : Bytes} {r : List PMark} (h : x.kind = 3) : loopP (f + 1) E d c m ks tx (x :: r) = loopP f E d c m ks (tx ++ x.text) r := by rw [loopP, if_pos h]
theorem loopP_differ {f d c : Nat} {E : Int} {m x : PMark} {ks : List PNode} {tx : Bytes} {r : List PMark} (h3 : x.kind ≠ 3) (h : x.kind = 2) (hn : x.name ≠ m.name) : loopP (f + 1) E d c m ks tx (x :: r) = .error (x.pos, 8) := by rw [loopP, if_neg h3, if_pos h, if_pos hn]
theorem loopP_bad {f d c : Nat} {E : Int} {m x : PMark} {ks : List PNode} {tx : Bytes} {r : List PMark} (h3 : x.kind ≠ 3) (h : x.kind = 2) (hn : x.name = m.name) (hb : ks ≠ [] ∧ blankB tx = false) : loopP (f + 1) E d c m ks tx (x :: r) = .error (m.pos, 8) := by
  rw [loopP, if_neg h3, if_pos h, if_neg (fun e => e hn), if_pos hb]
theorem loopP_good {f d c : Nat} {E : Int} {m x : PMark} {ks : List PNode} {tx : Bytes} {r : List PMark} (h3 : x.kind ≠ 3) (h : x.kind = 2) (hn : x.name = m.name) (hb : ¬(ks ≠ [] ∧ blankB tx = false)) :
    loopP (f + 1) E d c m ks tx (x :: r) = .ok (.mk m.name m.pos m.attrs ks (if ks = [] then tx else []), r, c) := by rw [loopP, if_neg h3, if_pos h, if_neg (fun e => e hn), if_neg hb]
theorem loopP_kid {f d c : Nat} {E : Int} {m x : PMark} {ks : List PNode} {tx : Bytes} {r : List PMark} (h3 : x.kind ≠ 3) (h : x.kind ≠ 2) :
    loopP (f + 1) E d c m ks tx (x :: r) = (match nodeP f E (d + 1) c x r with | .error e => .error e | .ok (k, r', c') => loopP f E d c' m (ks ++ [k]) tx r') := by rw [loopP, if_neg h3, if_neg h]; rfl
theorem Bd.drew {w : World} {R : Nat} {mv : Value} {nx ct E : Int} (h : Bd w R mv nx ct E) : Bd w.drew R mv nx ct E := h
theorem NPost.err {w0 w w' : World} {R : Nat} {mv : Value} {E : Int} {ms : List PMark} {k : Nat} {x : Except TErr (PNode × List PMark × Nat)} {a e : Int} {s0 : ByteArray} {i1 : Int} {p2 : Option Addr} {l2 c2 : Nat} {p3 : Option Addr} {l3 c3 : Nat} {s4 : ByteArray} {k' ct' : Int} (hx : x = .error (a, e)) (he : e ≠ 0) (hb : Bd w' R mv k' ct' E) (hg : w.grownBy w' (some R)) :
    NPost w0 w R mv E ms k x (.returned (.tuple #[.agg #[.string s0, .int .i64 i1, .slice p2 l2 c2, .slice p3 l3 c3, .string s4], .int .i64 a, .int .i64 e])) w' := by subst hx; exact ⟨s0, i1, p2, l2, c2, p3, l3, c3, s4, k', ct', rfl, he, hb, hg⟩
theorem NPost.good {w0 w w' : World} {R : Nat} {mv : Value} {E : Int} {ms : List PMark} {k : Nat} {x : Except TErr (PNode × List PMark × Nat)} {n : PNode} {rest : List PMark} {ct : Nat} {pa pk : Option Addr} {ca ck k' : Nat} (hx : x = .ok (n, rest, ct))
    (hn : NodeR w' (fun g => AtB w0 g ∨ w.heap.size ≤ g) (nodeV n pa ca pk ck) n) (h1 : k < k') (h2 : k' ≤ ms.length) (h3 : ms.drop k' = rest) (h4 : ct ≤ 4096) (hb : Bd w' R mv (k' : Nat) (ct : Nat) E) (hg : w.grownBy w' (some R)) :
    NPost w0 w R mv E ms k x (.returned (.tuple #[nodeV n pa ca pk ck, .int .i64 0, .int .i64 0])) w' := by subst hx; exact ⟨pa, ca, pk, ck, k', rfl, hn, h1, h2, h3, h4, hb, hg⟩

set_option maxRecDepth 1000000 in
set_option maxHeartbeats 16000000 in
theorem node_c (w0 : World) (p : Option Addr) (c : Nat) (ms : List PMark) (hm : MarksC w0 p ms) (hl : ms.length ≤ 65536) (hz : ∀ m ∈ ms, m.text.length ≤ 262144) (E : Int) (R : Nat) (hR : w0.heap.size ≤ R) :
    ∀ (f : Nat) (w : World) (k d ct : Nat) (hk : k < ms.length), 2 * (ms.length - (k + 1)) + 2 ≤ f → Bd w R (.slice p ms.length c) k ct E → Below w0.heap.size w0 w → d ≤ 65 → ct ≤ 4096 →
      Calls Tryz.prog 65 #[.pointer (some ⟨R, 0, none⟩), .int .i64 d] w fun en w' => NPost w0 w R (.slice p ms.length c) E ms k (nodeP f E d ct (ms[k]'hk) (ms.drop (k + 1))) en w' := by
  intro f
  induction f using Nat.strongRecOn with
  | _ f ih =>
    intro w k d ct hk hf hbd hlow hd hct
    obtain ⟨f, rfl⟩ : ∃ q, f = q + 1 := ⟨f - 1, by omega⟩
    obtain ⟨X, hX⟩ : ∃ X, X = nodeP (f + 1) E d ct (ms[k]'hk) (ms.drop (k + 1)) := ⟨_, rfl⟩
    rw [← hX]
    rw [nodeP] at hX
    obtain ⟨n, hn⟩ : ∃ n, n = ms.length := ⟨_, rfl⟩
    have hkn : k < n := by omega
    have hln : n ≤ 65536 := by omega
    obtain ⟨g0, o0, rfl, b0, b1, b2, b4, pa, ca, b3, hca, hAF⟩ := hm k hk
    have a0 := cell_keep hlow b0; have a1 := cell_keep hlow b1; have a2 := cell_keep hlow b2; have a3 := cell_keep hlow b3; have a4 := cell_keep hlow b4
    generalize ms[k]'hk = m at *
    obtain ⟨K, P, N, al, T⟩ := m
    simp only at a0 a1 a2 a3 a4 hca hAF b0 hX
    have hg00 : g0 < w0.heap.size := World.block_lt_of_cell? w0 _ b0
    clear b0 b1 b2 b3 b4
    rw [← hn] at hbd ⊢
    have HFm := Lib.hid hm; have HFz := Lib.hid hz; have HFi := Lib.hid ih; have HFl := Lib.hid hlow; have HFb := Lib.hid hbd; have HFn := Lib.hid hn; have HFf := Lib.hid hf; have HFa := Lib.hid (And.intro hca hAF); have HFX := Lib.hid hX
    clear ih hm hz hf hca hAF hX
    obtain ⟨L, hL⟩ : ∃ L, L = al.length := ⟨_, rfl⟩
    rw [← hL] at a3
    have HL := Lib.hid hL; clear hL
    have c0 := hbd.c0; have c1 := hbd.c1; have c2 := hbd.c2; have c3 := hbd.c3
    have hRlt := hbd.lt
    have hglt : g0 < w.heap.size := World.block_lt_of_cell? w _ a0
    clear hbd hlow hl hk hn
    have hkI : (k : Int) < (n : Int) := by omega
    go_enter Tryz.func65, Tryz.ntmps65
    go_wp2_with fail
    obtain ⟨wA, hwA⟩ : ∃ wA, wA = w.alloc (.cells #[.string ⟨#[]⟩, .int .i64 0, .slice none 0 0, .slice none 0 0, .string ⟨#[]⟩] 47) := ⟨_, rfl⟩
    rw [← hwA]
    have hbA : Below w.heap.size w wA := by rw [hwA]; exact (Below.refl _ w).alloc (Nat.le_refl _) _
    have hrA : Nd5 wA w.heap.size [] 0 (.slice none 0 0) (.slice none 0 0) [] := by rw [hwA]; exact Nd5.new w [] 0 _ _ []
    have hsA : wA.heap.size = w.heap.size + 1 := by rw [hwA]; simp
    replace c0 := cell_keep hbA c0; replace c1 := cell_keep hbA c1; replace c2 := cell_keep hbA c2; replace c3 := cell_keep hbA c3
    replace a0 := cell_keep hbA a0; replace a1 := cell_keep hbA a1; replace a2 := cell_keep hbA a2; replace a3 := cell_keep hbA a3; replace a4 := cell_keep hbA a4
    have hRA : R < wA.heap.size := by omega
    have hgA : g0 < wA.heap.size := by omega
    have HA := Lib.hid (And.intro hbA (And.intro hrA (And.intro hsA (And.intro hRlt hg00)))); clear hbA hrA hsA hRlt hglt hwA hg00
    apply join
    · intro key
      go_region
      all_goals (exact key.out)
    obtain ⟨wB, hwB⟩ : ∃ wB, wB = (wA.alloc (.cells #[.int .i64 K, .int .i64 P, .string ⟨N.toArray⟩, .slice pa L ca, .string ⟨T.toArray⟩] 41)).drew := ⟨_, rfl⟩
    rw [← hwB]
    have hbB : Below wA.heap.size wA wB := by rw [hwB]; exact ((Below.refl _ wA).alloc (Nat.le_refl _) _).drew
    have hM : Mk5 wB wA.heap.size K P N (.slice pa L ca) T := by rw [hwB]; exact Mk5.new wA K P N _ T
    have hsB : wB.heap.size = wA.heap.size + 1 := by rw [hwB]; simp
    have hbd := (HFb.out.below HA.out.1).below hbB
    have hRB := HA.out.2.1.below hbB
    clear c0 c1 c2 c3 a0 a1 a2 a3 a4 hwB
    have c0 := hbd.c0; have c1 := hbd.c1; have c2 := hbd.c2; have c3 := hbd.c3; have f1 := hbd.fz 1; have f2 := hbd.fz 2
    have d0 := hM.c0; have d1 := hM.c1; have d2 := hM.c2; have d3 := hM.c3; have d4 := hM.c4
    have r0 := hRB.c0; have r1 := hRB.c1; have r2 := hRB.c2; have r3 := hRB.c3; have r4 := hRB.c4
    have g0' := hRB.fz 0; have g1' := hRB.fz 1; have g2' := hRB.fz 2; have g3' := hRB.fz 3; have g4' := hRB.fz 4
    have hrlt := hRB.lt
    have n0 : R < w.heap.size := HA.out.2.2.2.1
    have hsA := HA.out.2.2.1
    have m1 : wA.heap.size ≠ R := by omega
    have m2 : R ≠ wA.heap.size := by omega
    have n1 : wA.heap.size ≠ w.heap.size := by omega
    have n2 : w.heap.size ≠ wA.heap.size := by omega
    have n3 : wB.heap.size ≠ w.heap.size := by omega
    have n4 : w.heap.size ≠ wB.heap.size := by omega
    have n5 : R ≠ w.heap.size := by omega
    have n6 : w.heap.size ≠ R := by omega
    have n7 : wB.heap.size ≠ wA.heap.size := by omega
    have n8 : wA.heap.size ≠ wB.heap.size := by omega
    have n9 : wB.heap.size ≠ R := by omega
    have n10 : R ≠ wB.heap.size := by omega
    have n11 : R < wB.heap.size := by omega
    have n12 : wA.heap.size < wB.heap.size := by omega
    have HB := Lib.hid (And.intro hbB (And.intro hM (And.intro hsB (And.intro hbd (And.intro hRB hsA))))); clear hbB hM hsB hbd hRB hsA
    go_upto_region 5 with fail
    obtain ⟨wC, hwC⟩ : ∃ wC, wC = (((wB.setCell ⟨R, 1, none⟩ (.int .i64 ((k : Int) + 1))).setCell ⟨R, 2, none⟩ (.int .i64 ((ct : Int) + 1))).alloc (.cells #[.string ⟨N.toArray⟩, .int .i64 P, .slice pa L ca, .slice none 0 0, .string ⟨#[]⟩] 47)) := ⟨_, rfl⟩
    rw [← hwC]
    have hsz2 : ((wB.setCell ⟨R, 1, none⟩ (.int .i64 ((k : Int) + 1))).setCell ⟨R, 2, none⟩ (.int .i64 ((ct : Int) + 1))).heap.size = wB.heap.size := by simp
    have hgBC : wB.grownBy wC (some R) := by rw [hwC]; exact ((grown_set _ _ _ _).trans (grown_set _ _ _ _)).trans (grown_below ((Below.refl _ _).alloc (Nat.le_refl _) _) _)
    have hNC : Nd5 wC wB.heap.size N P (.slice pa L ca) (.slice none 0 0) [] := by
      have := Nd5.new ((wB.setCell ⟨R, 1, none⟩ (.int .i64 ((k : Int) + 1))).setCell ⟨R, 2, none⟩ (.int .i64 ((ct : Int) + 1))) N P (.slice pa L ca) (.slice none 0 0) []
      rw [hsz2] at this
      rw [hwC]; exact this
    have hbdC : Bd wC R (.slice (some ⟨g0, o0, none⟩) n c) ((k + 1 : Nat) : Int) ((ct + 1 : Nat) : Int) E := by
      rw [hwC]; exact ((HB.out.2.2.2.1.set1 _ _ (by omega)).set2 _ _ (by omega)).below ((Below.refl _ _).alloc (Nat.le_refl _) _)
    have hMC := HB.out.2.1.grown hgBC m1
    have hRC := HB.out.2.2.2.2.1.grown hgBC n6
    have hgwC : w.grownBy wC (some R) := ((grown_below HA.out.1 (some R)).trans (grown_below HB.out.1 (some R))).trans hgBC
    clear c0 c1 c2 c3 f1 f2 d0 d1 d2 d3 d4 r0 r1 r2 r3 r4 g0' g1' g2' g3' g4' hwC hsz2 hgBC
    have c0 := hbdC.c0; have c1 := hbdC.c1; have c2 := hbdC.c2; have c3 := hbdC.c3; have f1 := hbdC.fz 1; have f2 := hbdC.fz 2
    have d0 := hMC.c0; have d1 := hMC.c1; have d2 := hMC.c2; have d4 := hMC.c4
    have q0 := hNC.c0; have q1 := hNC.c1; have q2 := hNC.c2; have q3 := hNC.c3; have q4 := hNC.c4
    have r0 := hRC.c0; have r1 := hRC.c1; have r2 := hRC.c2; have r3 := hRC.c3; have r4 := hRC.c4
    have g0' := hRC.fz 0; have g1' := hRC.fz 1; have g2' := hRC.fz 2; have g3' := hRC.fz 3; have g4' := hRC.fz 4
    have HCC := Lib.hid (And.intro hbdC (And.intro hNC (And.intro hMC (And.intro hRC hgwC)))); clear hbdC hNC hMC hRC hgwC
    by_cases h64 : 64 < d
    · have hI : (64 : Int) < (d : Int) := by omega
      have hX := HFX.out
      rw [if_pos h64] at hX
      have HX := Lib.hid hX; clear hX
      go_wp2_with fail
      apply join
      · intro key
        go_region
        all_goals (exact key.out)
      go_wp2_with fail
      refine bodyPost_ret (by simp [results, Tryz.results65, go_sem, r0, r1, r2, r3, r4]; try rfl) rfl ?_
      have hfin := fun v0 v1 v2 v3 v4 => fin5 (r := w.heap.size) (HCC.out.1) (HCC.out.2.2.2.2) n6 (Nat.le_refl _) v0 v1 v2 v3 v4
      unfold set5 at hfin
      exact NPost.err (HX.out) (by decide) (hfin _ _ _ _ _).1.drew ((hfin _ _ _ _ _).2.trans (grown_drew _ _))
    have hI : (d : Int) ≤ 64 := by omega
    by_cases h96 : 4096 < ct + 1
    · have hI2 : (4096 : Int) < (ct : Int) + 1 := by omega
      have hX := HFX.out
      rw [if_neg h64, if_pos h96] at hX
      have HX := Lib.hid hX; clear hX
      go_wp2_with fail
      apply join
      · intro key
        go_region
        all_goals (exact key.out)
      go_wp2_with fail
      refine bodyPost_ret (by simp [results, Tryz.results65, go_sem, r0, r1, r2, r3, r4]; try rfl) rfl ?_
      have hfin := fun v0 v1 v2 v3 v4 => fin5 (r := w.heap.size) (HCC.out.1) (HCC.out.2.2.2.2) n6 (Nat.le_refl _) v0 v1 v2 v3 v4
      unfold set5 at hfin
      exact NPost.err (HX.out) (by decide) (hfin _ _ _ _ _).1.drew ((hfin _ _ _ _ _).2.trans (grown_drew _ _))
    have hI2 : (ct : Int) + 1 ≤ 4096 := by omega
    by_cases hK : K = 4
    · subst hK
      have hX := HFX.out
      rw [if_neg h64, if_neg h96, if_pos rfl] at hX
      have HX := Lib.hid hX; clear hX
      go_wp2_with fail
      have hli := (LI.mk (vk := .slice none 0 0) (ks := []) (xs := []) HCC.out.1 HCC.out.2.2.2.2 HCC.out.2.1 HCC.out.2.2.2.1 ⟨rfl, Or.inl ⟨rfl, rfl⟩⟩ rfl hR n0 rfl (by omega) : LI w0 w R w.heap.size wB.heap.size (.slice (some ⟨g0, o0, none⟩) n c) E N P (.slice pa L ca) wC (k + 1) (ct + 1) [] [] (.slice none 0 0) [])
      refine bodyPost_ret (by simp [results, Tryz.results65, go_sem, r0, r1, r2, r3, r4]; try rfl) rfl ?_
      obtain rfl := HL.out
      have hnr := hli.node HFa.out.1 HFa.out.2 HFl.out [] (pk := none) (ck := 0) rfl
      have hfin := fun v0 v1 v2 v3 v4 => fin5 (r := w.heap.size) hli.bd hli.gr n6 (Nat.le_refl _) v0 v1 v2 v3 v4
      have hmv := fun v0 v1 v2 v3 v4 => hnr.move (w' := set5 wC w.heap.size v0 v1 v2 v3 v4) (Q' := fun g => AtB w0 g ∨ w.heap.size ≤ g) (fun g hq _ => ⟨heap_set5_ne wC v0 v1 v2 v3 v4 (hq.elim (fun h => by have := h.lt; have := HFl.out.size; omega) (fun h => by have := HFl.out.size; omega)), hq.elim (fun h => .inl h) (fun h => .inr (by omega))⟩)
      unfold set5 at hfin hmv
      exact NPost.good HX.out (hmv _ _ _ _ _) (by omega) (by have := HFn.out; omega) rfl (by omega) (hfin _ _ _ _ _).1 (hfin _ _ _ _ _).2

    · have hX := HFX.out
      rw [if_neg h64, if_neg h96, if_neg hK] at hX
      have HX := Lib.hid hX; clear hX
      have k4 : (K == 4) = false := by rw [beq_eq_false_iff_ne]; exact hK
      obtain ⟨i0, z0, by0, hi0, hz0, hs0, hb0, hy0, hbl0⟩ := info_node
      have IM := Lib.hid (And.intro hi0 (And.intro hz0 (And.intro hs0 (And.intro hb0 hy0)))); clear hi0 hz0 hs0 hb0 hy0
      have hli := (LI.mk (vk := .slice none 0 0) (ks := []) (xs := []) HCC.out.1 HCC.out.2.2.2.2 HCC.out.2.1 HCC.out.2.2.2.1 ⟨rfl, Or.inl ⟨rfl, rfl⟩⟩ rfl hR n0 rfl (by omega) : LI w0 w R w.heap.size wB.heap.size (.slice (some ⟨g0, o0, none⟩) n c) E N P (.slice pa L ca) wC (k + 1) (ct + 1) [] [] (.slice none 0 0) [])
      have HLI := Lib.hid hli; clear hli
      go_wp2_with fail
      go_loopg [] (n - (k + 1)) (fun g wr => ∃ (k' ct' : Nat) (ks : List PNode) (tx : Bytes) (vk : Value) (xs : List Value) (f' : Nat), k < k' ∧ k' ≤ n ∧ g = n - k' ∧ ct' ≤ 4096 ∧ ks.length ≤ k' ∧ tx.length ≤ k' * 262144 ∧ f' ≤ f ∧ 2 * (n - k') + 1 ≤ f' ∧ loopP f' E d ct' ⟨K, P, N, al, T⟩ ks tx (ms.drop k') = X ∧ LI w0 w R w.heap.size wB.heap.size (.slice (some ⟨g0, o0, none⟩) n c) E N P (.slice pa L ca) wr k' ct' ks tx vk xs)
      case atStart => exact ⟨k + 1, ct + 1, [], [], .slice none 0 0, [], f, by omega, by omega, rfl, by omega, by simp, by simp, Nat.le_refl _, by have := HFf.out; have := HFn.out; omega, HX.out.symm, HLI.out⟩
      case round =>
        obtain ⟨k', ct', ks, tx, vk, xs, f', hk1, hk2, hg, hct', hkl, htl, hf1, hf2, hx, hli⟩ := hrel
        obtain ⟨pk, ck, rfl, hck⟩ := node_form hli.own
        obtain ⟨q, rfl⟩ : ∃ q, f' = q + 1 := ⟨f' - 1, by omega⟩
        clear c0 c1 c2 c3 f1 f2 d0 d1 d2 d4 q0 q1 q2 q3 q4 r0 r1 r2 r3 r4 g0' g1' g2' g3' g4' hkI
        have c0 := hli.bd.c0; have c1 := hli.bd.c1; have c2 := hli.bd.c2; have c3 := hli.bd.c3; have f1 := hli.bd.fz 1
        have q0 := hli.nd.c0; have q1 := hli.nd.c1; have q2 := hli.nd.c2; have q3 := hli.nd.c3; have q4 := hli.nd.c4; have z3 := hli.nd.fz 3; have z4 := hli.nd.fz 4
        have r0 := hli.rd.c0; have r1 := hli.rd.c1; have r2 := hli.rd.c2; have r3 := hli.rd.c3; have r4 := hli.rd.c4
        have g0' := hli.rd.fz 0; have g1' := hli.rd.fz 1; have g2' := hli.rd.fz 2; have g3' := hli.rd.fz 3; have g4' := hli.rd.fz 4
        by_cases hlt : k' < n
        · have hkI' : (k' : Int) < (n : Int) := by omega
          have hka : k' < ms.length := by rw [← HFn.out]; exact hlt
          have hdk := List.drop_eq_getElem_cons hka
          rw [hdk] at hx
          have hlw := hli.low HFl.out
          obtain ⟨g1, o1, e, b0, b1, b2, b4, pa2, ca2, b3, _, _⟩ := HFm.out k' hka
          simp only [Option.some.injEq, Addr.mk.injEq, and_true] at e
          obtain ⟨rfl, rfl⟩ := e
          have a0 := cell_keep hlw b0; have a1 := cell_keep hlw b1; have a2 := cell_keep hlw b2; have a3 := cell_keep hlw b3; have a4 := cell_keep hlw b4
          clear b0 b1 b2 b3 b4
          have hzm := HFz.out _ (List.getElem_mem hka)
          have hcall := fun (W : World) (hbdW : Bd W R (.slice (some ⟨g0, o0, none⟩) ms.length c) k' ct' E) (hlowW : Below w0.heap.size w0 W) => HFi.out q (by omega) W k' (d + 1) ct' hka (by have := HFn.out; omega) hbdW hlowW (by omega) hct'
          rw [← HFn.out] at hcall
          generalize ms[k']'hka = m' at *
          obtain ⟨K2, P2, N2, al2, T2⟩ := m'
          simp only at a0 a1 a2 a3 a4 hzm
          obtain ⟨L2, hL2⟩ : ∃ L, L = al2.length := ⟨_, rfl⟩
          rw [← hL2] at a3
          have hgl : g0 < wr.heap.size := World.block_lt_of_cell? wr _ a0
          have HRD := Lib.hid (And.intro hli (And.intro hx (And.intro hg (And.intro hdk hcall)))); clear hli hx hg hdk hcall hlw hL2
          go_wp2_with fail
          go_quiet (fail)
          go_wp2_with fail
          obtain ⟨wx, hwx⟩ : ∃ wx, wx = wr.drewN nq := ⟨_, rfl⟩
          rw [← hwx]
          have hbx : Below wr.heap.size wr wx := by rw [hwx]; exact ⟨rfl, rfl, rfl, Nat.le_refl _, fun _ _ => rfl⟩
          have hlx := HRD.out.1.below hbx
          replace a0 := cell_keep hbx a0; replace a1 := cell_keep hbx a1; replace a2 := cell_keep hbx a2; replace a3 := cell_keep hbx a3; replace a4 := cell_keep hbx a4
          replace hgl : g0 < wx.heap.size := Nat.lt_of_lt_of_le hgl hbx.size
          clear c0 c1 c2 c3 f1 q0 q1 q2 q3 q4 z3 z4 r0 r1 r2 r3 r4 g0' g1' g2' g3' g4'
          have c0 := hlx.bd.c0; have c1 := hlx.bd.c1
          have b1 := hlx.bd.lt; have b2 := hlx.nd.lt; have b3 := hlx.rd.lt
          have HLX := Lib.hid hlx; clear hlx hbx hwx
          apply join
          · intro key
            go_region
            all_goals (exact key.out)
          obtain ⟨wy, hwy⟩ : ∃ wy, wy = (wx.alloc (.cells #[.int .i64 K2, .int .i64 P2, .string ⟨N2.toArray⟩, .slice pa2 L2 ca2, .string ⟨T2.toArray⟩] 41)).drew := ⟨_, rfl⟩
          rw [← hwy]
          have hby : Below wx.heap.size wx wy := by rw [hwy]; exact ((Below.refl _ wx).alloc (Nat.le_refl _) _).drew
          have hM2 : Mk5 wy wx.heap.size K2 P2 N2 (.slice pa2 L2 ca2) T2 := by rw [hwy]; exact Mk5.new wx K2 P2 N2 _ T2
          have hly := HLX.out.below hby
          clear c0 c1 a0 a1 a2 a3 a4 hgl
          have c0 := hly.bd.c0; have c1 := hly.bd.c1; have c2 := hly.bd.c2; have c3 := hly.bd.c3; have f1 := hly.bd.fz 1
          have q0 := hly.nd.c0; have q1 := hly.nd.c1; have q2 := hly.nd.c2; have q3 := hly.nd.c3; have q4 := hly.nd.c4; have z3 := hly.nd.fz 3; have z4 := hly.nd.fz 4
          have r0 := hly.rd.c0; have r1 := hly.rd.c1; have r2 := hly.rd.c2; have r3 := hly.rd.c3; have r4 := hly.rd.c4
          have g0' := hly.rd.fz 0; have g1' := hly.rd.fz 1; have g2' := hly.rd.fz 2; have g3' := hly.rd.fz 3; have g4' := hly.rd.fz 4
          have e0 := hM2.c0; have e1 := hM2.c1; have e2 := hM2.c2; have e4 := hM2.c4
          have x1 : wx.heap.size ≠ R := by omega
          have x2 : R ≠ wx.heap.size := by omega
          have x3 : wx.heap.size ≠ wB.heap.size := by omega
          have x4 : wB.heap.size ≠ wx.heap.size := by omega
          have x5 : wx.heap.size ≠ w.heap.size := by omega
          have x6 : w.heap.size ≠ wx.heap.size := by omega
          have HY := Lib.hid (And.intro hly hM2); clear hly hM2 hby hwy
          by_cases h3 : K2 = 3
          · subst h3
            have hx := (loopP_chars (x := ⟨3, P2, N2, al2, T2⟩) rfl).symm.trans HRD.out.2.1
            have HX2 := Lib.hid hx; clear hx
            go_wp2_with fail
            go_roundg (n - (k' + 1))
            case measure => have := HRD.out.2.2.1; omega
            case rel => exact ⟨k' + 1, ct', ks, tx ++ T2, _, xs, q, by omega, by omega, rfl, hct', by omega, by rw [List.length_append]; omega, by omega, by omega, HX2.out, (HY.out.1.text _ T2 (by first | exact ba_app _ _ | simp)).next _ (by go_num)⟩
          by_cases h2 : K2 = 2
          · subst h2
            have k3 : (2 : Int) ≠ 3 := by decide
            go_upto_region 23 with fail
            obtain ⟨wz, hwz⟩ : ∃ wz, wz = wy.setCell ⟨R, 1, none⟩ (.int .i64 ((k' : Int) + 1)) := ⟨_, rfl⟩
            rw [← hwz]
            have hlz := HY.out.1.next ((k' : Int) + 1) (by omega)
            have hMz : Mk5 (wy.setCell ⟨R, 1, none⟩ (.int .i64 ((k' : Int) + 1))) wx.heap.size 2 P2 N2 (.slice pa2 L2 ca2) T2 := (heap_set_ne wy 1 _ x1).trans HY.out.2
            rw [← hwz] at hlz hMz
            clear e0 e1 e2 e4
            clear c0 c1 c2 c3 f1 q0 q1 q2 q3 q4 z3 z4 r0 r1 r2 r3 r4 g0' g1' g2' g3' g4'
            have c0 := hlz.bd.c0; have c1 := hlz.bd.c1; have c2 := hlz.bd.c2; have c3 := hlz.bd.c3; have f1 := hlz.bd.fz 1
            have q0 := hlz.nd.c0; have q1 := hlz.nd.c1; have q2 := hlz.nd.c2; have q3 := hlz.nd.c3; have q4 := hlz.nd.c4; have z3 := hlz.nd.fz 3; have z4 := hlz.nd.fz 4
            have r0 := hlz.rd.c0; have r1 := hlz.rd.c1; have r2 := hlz.rd.c2; have r3 := hlz.rd.c3; have r4 := hlz.rd.c4
            have g0' := hlz.rd.fz 0; have g1' := hlz.rd.fz 1; have g2' := hlz.rd.fz 2; have g3' := hlz.rd.fz 3; have g4' := hlz.rd.fz 4
            have e0 := hMz.c0; have e1 := hMz.c1; have e2 := hMz.c2; have e4 := hMz.c4
            have HLZ := Lib.hid hlz; clear hlz hMz hwz
            by_cases hN : N2 = N
            · subst hN
              by_cases hbad : ks ≠ [] ∧ blankB tx = false
              · have hx := (loopP_bad (x := ⟨2, P2, N2, al2, T2⟩) (m := ⟨K, P, N2, al, T⟩) k3 rfl rfl hbad).symm.trans HRD.out.2.1
                have hT3 : (if 0 < ks.length ∧ blankB tx = true then [] else tx) = tx := by rw [hbad.2]; simp
                have hok : decide (¬(0 < ks.length ∧ blankB tx = false)) = false := by rw [hbad.2]; simp; exact hbad.1
                have hdone : ∀ W, Calls Tryz.prog 91 #[.agg #[.string ⟨N2.toArray⟩, .int .i64 P, .slice pa L ca, .slice pk ks.length ck, .string ⟨tx.toArray⟩]] W fun en w' => en = .returned (.tuple #[.agg #[.string ⟨N2.toArray⟩, .int .i64 P, .slice pa L ca, .slice pk ks.length ck, .string ⟨(tx).toArray⟩], .bool false]) ∧ Below W.heap.size W w' := fun W => by
                  have := done_c W N2 P (.slice pa L ca) rfl pk ks.length ck tx (by omega) pa L ca rfl
                  rw [hT3, hok] at this
                  exact this
                have HD := Lib.hid hdone; clear hdone hT3 hok
                have HX2 := Lib.hid hx; clear hx hbad
                go_wp2_with (first
                  | (go_at_call 91; refine (HD.out _).mono ?_; rintro en w2 ⟨rfl, b5⟩; have hl2 := HLZ.out.below b5; clear c0 c1 c2 c3 f1 q0 q1 q2 q3 q4 z3 z4 r0 r1 r2 r3 r4 g0' g1' g2' g3' g4'; have c0 := hl2.bd.c0; have c1 := hl2.bd.c1; have c2 := hl2.bd.c2; have c3 := hl2.bd.c3; have f1 := hl2.bd.fz 1; have q0 := hl2.nd.c0; have q1 := hl2.nd.c1; have q2 := hl2.nd.c2; have q3 := hl2.nd.c3; have q4 := hl2.nd.c4; have z3 := hl2.nd.fz 3; have z4 := hl2.nd.fz 4; have r0 := hl2.rd.c0; have r1 := hl2.rd.c1; have r2 := hl2.rd.c2; have r3 := hl2.rd.c3; have r4 := hl2.rd.c4; have g0' := hl2.rd.fz 0; have g1' := hl2.rd.fz 1; have g2' := hl2.rd.fz 2; have g3' := hl2.rd.fz 3; have g4' := hl2.rd.fz 4; have HL2 := Lib.hid hl2; have b7 := hl2.rd.lt; clear hl2))
                obtain ⟨w3, hw3⟩ : ∃ w3, w3 = w2.alloc (.cells #[.string ⟨N2.toArray⟩, .int .i64 P, .slice pa L ca, .slice pk ks.length ck, .string ⟨tx.toArray⟩] 47) := ⟨_, rfl⟩
                rw [← hw3]
                have hl3 := HL2.out.below (show Below w2.heap.size w2 w3 from by rw [hw3]; exact (Below.refl _ w2).alloc (Nat.le_refl _) _)
                have hv3 : Nd5 w3 w2.heap.size N2 P (.slice pa L ca) (.slice pk ks.length ck) tx := by rw [hw3]; exact Nd5.new w2 N2 P _ _ _
                clear c0 c1 c2 c3 f1 q0 q1 q2 q3 q4 z3 z4 r0 r1 r2 r3 r4 g0' g1' g2' g3' g4'
                have c0 := hl3.bd.c0; have c1 := hl3.bd.c1; have c2 := hl3.bd.c2; have c3 := hl3.bd.c3; have f1 := hl3.bd.fz 1
                have q0 := hl3.nd.c0; have q1 := hl3.nd.c1; have q2 := hl3.nd.c2; have q3 := hl3.nd.c3; have q4 := hl3.nd.c4; have z3 := hl3.nd.fz 3; have z4 := hl3.nd.fz 4
                have r0 := hl3.rd.c0; have r1 := hl3.rd.c1; have r2 := hl3.rd.c2; have r3 := hl3.rd.c3; have r4 := hl3.rd.c4
                have g0' := hl3.rd.fz 0; have g1' := hl3.rd.fz 1; have g2' := hl3.rd.fz 2; have g3' := hl3.rd.fz 3; have g4' := hl3.rd.fz 4
                have v0 := hv3.c0; have v1 := hv3.c1; have v2 := hv3.c2; have v3 := hv3.c3; have v4 := hv3.c4
                have y1 : w2.heap.size ≠ w.heap.size := by omega
                have y2 : w.heap.size ≠ w2.heap.size := by omega
                have b8 := hl3.rd.lt
                clear hw3 hv3
                have HL3 := Lib.hid hl3; clear hl3
                apply join
                · intro key
                  go_region
                  all_goals (exact key.out)
                go_wp2_with fail
                refine bodyPost_ret (by simp [results, Tryz.results65, go_sem, r0, r1, r2, r3, r4]; try rfl) rfl ?_
                have hfin := fun v0 v1 v2 v3 v4 => fin5 (r := w.heap.size) (HL3.out.bd) (HL3.out.gr) n6 (Nat.le_refl _) v0 v1 v2 v3 v4
                unfold set5 at hfin
                exact NPost.err (HX2.out.symm) (by decide) (hfin _ _ _ _ _).1.drew ((hfin _ _ _ _ _).2.trans (grown_drew _ _))
              · have hx := (loopP_good (x := ⟨2, P2, N2, al2, T2⟩) (m := ⟨K, P, N2, al, T⟩) k3 rfl rfl hbad).symm.trans HRD.out.2.1
                obtain ⟨T3, hT3'⟩ : ∃ T3, T3 = if ks = [] then tx else [] := ⟨_, rfl⟩
                rw [← hT3'] at hx
                have hT3 : (if 0 < ks.length ∧ blankB tx = true then [] else tx) = T3 := by
                  rw [hT3']
                  by_cases h0 : ks = []
                  · subst h0; simp
                  · rw [if_neg h0]
                    have hb : blankB tx = true := by
                      cases hbb : blankB tx with
                      | true => rfl
                      | false => exact absurd ⟨h0, hbb⟩ hbad
                    rw [if_pos ⟨List.length_pos_iff.2 h0, hb⟩]
                have hok : decide (¬(0 < ks.length ∧ blankB tx = false)) = true := by
                  rw [decide_eq_true_eq]
                  rintro ⟨h0, hb⟩
                  exact hbad ⟨List.length_pos_iff.1 h0, hb⟩
                have hdone : ∀ W, Calls Tryz.prog 91 #[.agg #[.string ⟨N2.toArray⟩, .int .i64 P, .slice pa L ca, .slice pk ks.length ck, .string ⟨tx.toArray⟩]] W fun en w' => en = .returned (.tuple #[.agg #[.string ⟨N2.toArray⟩, .int .i64 P, .slice pa L ca, .slice pk ks.length ck, .string ⟨(T3).toArray⟩], .bool true]) ∧ Below W.heap.size W w' := fun W => by
                  have := done_c W N2 P (.slice pa L ca) rfl pk ks.length ck tx (by omega) pa L ca rfl
                  rw [hT3, hok] at this
                  exact this
                have HD := Lib.hid hdone; clear hdone hT3 hok
                have HX2 := Lib.hid hx; clear hx hbad hT3'
                go_wp2_with (first
                  | (go_at_call 91; refine (HD.out _).mono ?_; rintro en w2 ⟨rfl, b5⟩; have hl2 := HLZ.out.below b5; clear c0 c1 c2 c3 f1 q0 q1 q2 q3 q4 z3 z4 r0 r1 r2 r3 r4 g0' g1' g2' g3' g4'; have c0 := hl2.bd.c0; have c1 := hl2.bd.c1; have c2 := hl2.bd.c2; have c3 := hl2.bd.c3; have f1 := hl2.bd.fz 1; have q0 := hl2.nd.c0; have q1 := hl2.nd.c1; have q2 := hl2.nd.c2; have q3 := hl2.nd.c3; have q4 := hl2.nd.c4; have z3 := hl2.nd.fz 3; have z4 := hl2.nd.fz 4; have r0 := hl2.rd.c0; have r1 := hl2.rd.c1; have r2 := hl2.rd.c2; have r3 := hl2.rd.c3; have r4 := hl2.rd.c4; have g0' := hl2.rd.fz 0; have g1' := hl2.rd.fz 1; have g2' := hl2.rd.fz 2; have g3' := hl2.rd.fz 3; have g4' := hl2.rd.fz 4; have HL2 := Lib.hid hl2; have b7 := hl2.rd.lt; clear hl2))
                refine bodyPost_ret (by simp [results, Tryz.results65, go_sem, r0, r1, r2, r3, r4, b7]; try rfl) rfl ?_
                obtain rfl := HL.out
                have hnr := HL2.out.node HFa.out.1 HFa.out.2 HFl.out T3 (pk := pk) (ck := ck) rfl
                have hfin := fun v0 v1 v2 v3 v4 => fin5 (r := w.heap.size) HL2.out.bd HL2.out.gr n6 (Nat.le_refl _) v0 v1 v2 v3 v4
                have hmv := fun v0 v1 v2 v3 v4 => hnr.move (w' := set5 w2 w.heap.size v0 v1 v2 v3 v4) (Q' := fun g => AtB w0 g ∨ w.heap.size ≤ g) (fun g hq _ => ⟨heap_set5_ne w2 v0 v1 v2 v3 v4 (hq.elim (fun h => by have := h.lt; have := HFl.out.size; omega) (fun h => by have := HFl.out.size; omega)), hq.elim (fun h => .inl h) (fun h => .inr (by omega))⟩)
                unfold set5 at hfin hmv
                exact NPost.good HX2.out.symm ((hmv _ _ _ _ _).below ((Below.refl _ _).alloc (Nat.le_refl _) _)) (by omega) (by have := HFn.out; omega) rfl (by omega) ((hfin _ _ _ _ _).1.below ((Below.refl _ _).alloc (Nat.le_refl _) _)) ((hfin _ _ _ _ _).2.trans (grown_below ((Below.refl _ _).alloc (Nat.le_refl _) _) _))
            · have hx := (loopP_differ (x := ⟨2, P2, N2, al2, T2⟩) (m := ⟨K, P, N, al, T⟩) k3 rfl hN).symm.trans HRD.out.2.1
              have hN2 : (N2 == N) = false := by rw [beq_eq_false_iff_ne]; exact hN
              have HX2 := Lib.hid hx; clear hx
              go_wp2_with fail
              apply join
              · intro key
                go_region
                all_goals (exact key.out)
              go_wp2_with fail
              refine bodyPost_ret (by simp [results, Tryz.results65, go_sem, r0, r1, r2, r3, r4]; try rfl) rfl ?_
              have hfin := fun v0 v1 v2 v3 v4 => fin5 (r := w.heap.size) (HLZ.out.bd) (HLZ.out.gr) n6 (Nat.le_refl _) v0 v1 v2 v3 v4
              unfold set5 at hfin
              exact NPost.err (HX2.out.symm) (by decide) (hfin _ _ _ _ _).1.drew ((hfin _ _ _ _ _).2.trans (grown_drew _ _))
          · have hx := (loopP_kid (x := ⟨K2, P2, N2, al2, T2⟩) (m := ⟨K, P, N, al, T⟩) h3 h2).symm.trans HRD.out.2.1
            have k3 : (K2 == 3) = false := by rw [beq_eq_false_iff_ne]; exact h3
            have k2' : (K2 == 2) = false := by rw [beq_eq_false_iff_ne]; exact h2
            have hcall := HRD.out.2.2.2.2 wy HY.out.1.bd (HY.out.1.low HFl.out)
            rw [show ((d + 1 : Nat) : Int) = (d : Int) + 1 from by omega] at hcall
            cases hX2 : nodeP q E (d + 1) ct' ⟨K2, P2, N2, al2, T2⟩ (ms.drop (k' + 1)) with
            | error ae =>
              obtain ⟨a2, e2'⟩ := ae
              rw [hX2] at hcall hx
              have HX2 := Lib.hid (show .error (a2, e2') = X from hx)
              have HC := Lib.hid hcall; clear hcall hx hX2
              go_wp2_with (first
                | (go_at_call 65; refine HC.out.mono ?_; rintro en w2 ⟨s0', i1', p2', l2', c2', p3', l3', c3', s4', k2, ct2, rfl, he, hb2, hg2⟩; clear c0 c1 c2 c3 f1 q0 q1 q2 q3 q4 z3 z4 r0 r1 r2 r3 r4 g0' g1' g2' g3' g4'; have hnd := HY.out.1.nd.grown hg2 n9; have hrd := HY.out.1.rd.grown hg2 n6; have q0 := hnd.c0; have q1 := hnd.c1; have q2 := hnd.c2; have q3 := hnd.c3; have q4 := hnd.c4; have r0 := hrd.c0; have r1 := hrd.c1; have r2 := hrd.c2; have r3 := hrd.c3; have r4 := hrd.c4; have g0' := hrd.fz 0; have g1' := hrd.fz 1; have g2' := hrd.fz 2; have g3' := hrd.fz 3; have g4' := hrd.fz 4; have he1 : (e2' == 0) = false := (by rw [beq_eq_false_iff_ne]; exact he); have he2 : (e2' != 0) = true := (by unfold bne; rw [he1]; rfl); have b7 := hrd.lt; have b8 := hnd.lt; have HE2 := Lib.hid (And.intro he (And.intro hb2 hg2)); clear he hb2 hg2 hnd hrd))
              refine bodyPost_ret (by simp [results, Tryz.results65, go_sem, r0, r1, r2, r3, r4, b7]; try rfl) rfl ?_
              have hfin := fun v0 v1 v2 v3 v4 => fin5 (r := w.heap.size) (HE2.out.2.1) (HY.out.1.gr.trans HE2.out.2.2) n6 (Nat.le_refl _) v0 v1 v2 v3 v4
              unfold set5 at hfin
              exact NPost.err (HX2.out.symm) (HE2.out.1) ((hfin _ _ _ _ _).1.below ((Below.refl _ _).alloc (Nat.le_refl _) _)) ((hfin _ _ _ _ _).2.trans (grown_below ((Below.refl _ _).alloc (Nat.le_refl _) _) _))
            | ok kr =>
              obtain ⟨kid, rest, ct2⟩ := kr
              rw [hX2] at hcall hx
              have HX2 := Lib.hid (show loopP q E d ct2 ⟨K, P, N, al, T⟩ (ks ++ [kid]) tx rest = X from hx)
              have HC := Lib.hid hcall; clear hcall hx hX2
              have hN1 : ks.length + 1 ≤ maxLen := by unfold maxLen; omega
              have hN2 : (ks.length + 1) * by0 ≤ 140737488355328 := Nat.le_trans (Nat.mul_le_mul (show ks.length + 1 ≤ 65537 by omega) hbl0) (by omega)
              have HN := Lib.hid (And.intro hN1 hN2); clear hN1 hN2
              go_wp2_with (first
                | (go_at_call 65; refine HC.out.mono ?_; rintro en w2 ⟨pa3, ca3, pk3, ck3, k2, rfl, hnr, hk2a, hk2b, hrest, hct2, hb2, hg2⟩; unfold nodeV; clear c0 c1 c2 c3 f1 q0 q1 q2 q3 q4 z3 z4 r0 r1 r2 r3 r4 g0' g1' g2' g3' g4'; have hl2 := HY.out.1.call hg2 hb2; have hkid := HY.out.1.kid hnr; have c0 := hl2.bd.c0; have c1 := hl2.bd.c1; have c2 := hl2.bd.c2; have c3 := hl2.bd.c3; have f1 := hl2.bd.fz 1; have q0 := hl2.nd.c0; have q1 := hl2.nd.c1; have q2 := hl2.nd.c2; have q3 := hl2.nd.c3; have q4 := hl2.nd.c4; have z3 := hl2.nd.fz 3; have z4 := hl2.nd.fz 4; have r0 := hl2.rd.c0; have r1 := hl2.rd.c1; have r2 := hl2.rd.c2; have r3 := hl2.rd.c3; have r4 := hl2.rd.c4; have g0' := hl2.rd.fz 0; have g1' := hl2.rd.fz 1; have g2' := hl2.rd.fz 2; have g3' := hl2.rd.fz 3; have g4' := hl2.rd.fz 4; have b7 := hl2.rd.lt; have b8 := hl2.nd.lt; have HL2 := Lib.hid (And.intro hl2 hkid); have HK2 := Lib.hid (And.intro hrest hct2); clear hl2 hkid hnr hrest hct2 hb2 hg2)
                | (at_builtin; refine wpList_append_own_at _ rfl (.tmp 102) (.tmp 104) 45 rfl (wB.heap.size + 1) 47 i0 z0 5 by0 Tryz.underlying45 IM.out.1 IM.out.2.1 IM.out.2.2.1 IM.out.2.2.2.1 IM.out.2.2.2.2 (by decide) (.slice pk ks.length ck) ks.length xs rfl (ownsRow_below HL2.out.1.own (((Below.refl _ w2).alloc (Nat.le_refl _) _).alloc (by simp) _)) ⟨w2.heap.size + 1, 0, none⟩ 1 1 [.string ⟨kid.name.toArray⟩, .int .i64 kid.pos, .slice pa3 kid.attrs.length ca3, .slice pk3 kid.kids.length ck3, .string ⟨kid.text.toArray⟩] rfl rfl ?c1 ?c2 ?c3 ?c4 ?c5 ?_))
              case c1 => intro j u hj; have := cells_new (w2.alloc (.cells #[.string ⟨kid.name.toArray⟩, .int .i64 kid.pos, .slice pa3 kid.attrs.length ca3, .slice pk3 kid.kids.length ck3, .string ⟨kid.text.toArray⟩] 47)) #[.string ⟨kid.name.toArray⟩, .int .i64 kid.pos, .slice pa3 kid.attrs.length ca3, .slice pk3 kid.kids.length ck3, .string ⟨kid.text.toArray⟩] 47 j u hj; rw [show (w2.alloc (.cells #[.string ⟨kid.name.toArray⟩, .int .i64 kid.pos, .slice pa3 kid.attrs.length ca3, .slice pk3 kid.kids.length ck3, .string ⟨kid.text.toArray⟩] 47)).heap.size = w2.heap.size + 1 from by simp] at this; exact this
              case c2 => intro u hu; simp only [List.mem_cons, List.not_mem_nil, or_false] at hu; rcases hu with rfl | rfl | rfl | rfl | rfl <;> rfl
              case c3 => exact HN.out.1
              case c4 => exact HN.out.2
              case c5 => simp; omega
              intro v5 w5 hown5 hgrow5 _ hob5
              obtain ⟨g5, cap5, rfl⟩ := row_form hown5
              have hA5 : Below w2.heap.size w2 ((w2.alloc (.cells #[.string ⟨kid.name.toArray⟩, .int .i64 kid.pos, .slice pa3 kid.attrs.length ca3, .slice pk3 kid.kids.length ck3, .string ⟨kid.text.toArray⟩] 47)).alloc (.cells #[.string ⟨kid.name.toArray⟩, .int .i64 kid.pos, .slice pa3 kid.attrs.length ca3, .slice pk3 kid.kids.length ck3, .string ⟨kid.text.toArray⟩] 47)) := ((Below.refl _ w2).alloc (Nat.le_refl _) _).alloc (by simp) _
              have hp5 := HL2.out.1.push hA5 hgrow5 hown5 (by simpa using hob5) HL2.out.2
              have hn5 := HL2.out.1.after hA5 hgrow5
              clear c0 c1 c2 c3 f1 q0 q1 q2 q3 q4 z3 z4 r0 r1 r2 r3 r4 g0' g1' g2' g3' g4'
              have s3 := hn5.c3; have t3 := hn5.fz 3
              have HP5 := Lib.hid hp5; clear hp5 hn5 hown5 hgrow5 hob5 hA5
              go_wp2_with fail
              go_roundg (n - k2)
              case measure => have := HRD.out.2.2.1; have := HFn.out; omega
              case rel => exact ⟨k2, ct2, ks ++ [kid], tx, _, _, q, by omega, by have := HFn.out; omega, rfl, HK2.out.2, by rw [List.length_append]; simp only [List.length_cons, List.length_nil]; omega, by omega, by omega, by omega, by rw [HK2.out.1]; exact HX2.out, HP5.out⟩
        · obtain rfl : k' = n := by omega
          have hd0 : ms.drop k' = [] := by rw [HFn.out]; exact List.drop_length
          rw [hd0] at hx
          have hx : .error (E, 8) = X := hx
          have hkI' : decide ((k' : Int) < (k' : Int)) = false := by simp
          have HRD := Lib.hid (And.intro hli hx); clear hli hx hg hd0
          go_wp2_with fail
          go_quiet (fail)
          go_wp2_with fail
          obtain ⟨wx, hwx⟩ : ∃ wx, wx = wr.drewN nq := ⟨_, rfl⟩
          rw [← hwx]
          have hbx : Below wr.heap.size wr wx := by rw [hwx]; exact ⟨rfl, rfl, rfl, Nat.le_refl _, fun _ _ => rfl⟩
          have hlx := HRD.out.1.below hbx
          clear c0 c1 c2 c3 f1 q0 q1 q2 q3 q4 z3 z4 r0 r1 r2 r3 r4 g0' g1' g2' g3' g4'
          have c0 := hlx.bd.c0; have c1 := hlx.bd.c1; have c2 := hlx.bd.c2; have c3 := hlx.bd.c3; have f1 := hlx.bd.fz 1
          have q0 := hlx.nd.c0; have q1 := hlx.nd.c1; have q2 := hlx.nd.c2; have q3 := hlx.nd.c3; have q4 := hlx.nd.c4; have z3 := hlx.nd.fz 3; have z4 := hlx.nd.fz 4
          have r0 := hlx.rd.c0; have r1 := hlx.rd.c1; have r2 := hlx.rd.c2; have r3 := hlx.rd.c3; have r4 := hlx.rd.c4
          have g0' := hlx.rd.fz 0; have g1' := hlx.rd.fz 1; have g2' := hlx.rd.fz 2; have g3' := hlx.rd.fz 3; have g4' := hlx.rd.fz 4
          have HLX := Lib.hid hlx; clear hlx hbx hwx
          apply join
          · intro key
            go_region
            all_goals (exact key.out)
          go_wp2_with fail
          refine bodyPost_ret (by simp [results, Tryz.results65, go_sem, r0, r1, r2, r3, r4]; try rfl) rfl ?_
          have hfin := fun v0 v1 v2 v3 v4 => fin5 (r := w.heap.size) (HLX.out.bd) (HLX.out.gr) n6 (Nat.le_refl _) v0 v1 v2 v3 v4
          unfold set5 at hfin
          exact NPost.err (HRD.out.2.symm) (by decide) (hfin _ _ _ _ _).1.drew ((hfin _ _ _ _ _).2.trans (grown_drew _ _))
end Go.Proofs.YtcicibeggkmlcaaGreatDoor
