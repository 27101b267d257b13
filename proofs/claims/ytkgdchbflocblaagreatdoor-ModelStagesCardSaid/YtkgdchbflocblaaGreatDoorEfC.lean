/- Regions whose order is drawn; functions that are answered; where a run begins. Conditions: each theorem's own. -/
import Derived.Test.YtkgdchbflocblaaGreatDoorExA
import Derived.Orders
import Derived.Test.YtkgdchbflocblaaGreatDoorEvA
import Derived.Laws.Externs
set_option linter.unusedVariables false
namespace Go.Ev
open Go

/-- A NEW BLOCK under a name that is absent in the evaluator's heap. -/
theorem Rel.pend {G : Gh} {h : Hp} {w : World} (r : Rel G h w) {f : Id} (hn : idv f < h.nx) (h0 : (h f).g = 0) (hnone : ∀ m, G.β f m = none) (blk : Go.Obj) (en s : Nat) :
    G.le (G.put f 0 (w.heap.size, 0, en) s) ∧ Rel (G.put f 0 (w.heap.size, 0, en) s) h (w.alloc blk) := by
  have hle : G.le (G.put f 0 (w.heap.size, 0, en) s) := fun f' m' x hx => by
    have hne : f' ≠ f := fun e => by rw [e, hnone] at hx; cases hx
    have hlt := (r.dom f' m' x hx).2.1
    refine ⟨by simp only [Gh.put]; rw [if_neg (fun e => hne e.1)]; exact hx, ?_⟩
    simp only [Gh.put]; rw [if_neg (by omega)]
  have hsize := alloc_size w blk
  refine ⟨hle, ⟨fun f' m' x hx => ?_, fun f1 m1 x1 f2 m2 x2 e1 e2 e3 => ?_, fun f' => ?_⟩⟩
  · rcases Gh.put_cases hx with ⟨rfl, rfl, rfl⟩ | ⟨_, hx'⟩
    · exact ⟨hn, by simp only; omega, fun hg1 => by omega⟩
    · obtain ⟨d1, d2, d3⟩ := r.dom f' m' x hx'
      exact ⟨d1, by omega, d3⟩
  · rcases Gh.put_cases e1 with ⟨rfl, rfl, rfl⟩ | ⟨_, h1⟩ <;> rcases Gh.put_cases e2 with ⟨rfl, rfl, rfl⟩ | ⟨_, h2⟩
    · exact ⟨rfl, rfl⟩
    · have := (r.dom f2 m2 x2 h2).2.1
      simp only at e3; omega
    · have := (r.dom f1 m1 x1 h1).2.1
      simp only at e3; omega
    · exact r.uniq f1 m1 x1 f2 m2 x2 h1 h2 e3
  · by_cases hff : f' = f
    · subst hff
      exact ⟨fun h => by omega, fun h => by omega, fun h => by omega⟩
    · obtain ⟨o1, o2, o3⟩ := r.obj f'
      have hb : ∀ m, (G.put f 0 (w.heap.size, 0, en) s).β f' m = G.β f' m := fun m => by simp only [Gh.put]; rw [if_neg (fun e => hff e.1)]
      refine ⟨fun hg' => ⟨(o1 hg').le, fun m a b => ?_, fun e1 e2 => ?_⟩, fun hg' => ?_, fun hg' => ?_⟩
      · obtain ⟨c', off', en', b1, b2, b3, b4, arr', elem', lo', hi', b5, b6, b7, b8, b9, b10⟩ := (o1 hg').mem m a b
        have hlt := (r.dom _ _ _ b1).2.1
        simp only at hlt
        refine ⟨c', off', en', by rw [hb]; exact b1, b2, b3, b4, arr', elem', lo', hi', by rw [alloc_there w blk (by omega)]; exact b5, by simp only [Gh.put]; rw [if_neg (by omega)]; exact b6, b7, b8, b9, fun x a' k1 k2 k3 => ?_⟩
        obtain ⟨v, hv, hr⟩ := b10 x a' k1 k2 k3
        exact ⟨v, hv, hr.up hle⟩
      · obtain ⟨c', en', q⟩ := (o1 hg').box e1 e2
        exact ⟨c', en', by rw [hb]; exact q⟩
      · obtain ⟨c', es, b1, b2, b3⟩ := o2 hg'
        have hlt := (r.dom _ _ _ b1).2.1
        simp only at hlt
        exact ⟨c', es, by rw [hb]; exact b1, by rw [alloc_there w blk (by omega)]; exact b2, b3.mono fun x e _ ⟨k1, k2, k3⟩ => ⟨k1.up hle, k2.up hle, k3⟩⟩
      · obtain ⟨c', s', b1, b2, b3⟩ := o3 hg'
        have hlt := (r.dom _ _ _ b1).2.1
        simp only at hlt
        exact ⟨c', s', by rw [hb]; exact b1, by rw [alloc_there w blk (by omega)]; exact b2, b3⟩

/-- One operation that was done. -/
structure Rec where
  i : Nat
  o : Oper
  kd : Nat
  r : AV
  h1 : Hp
  f : Id
  ob : Obj

section
variable (P : Program) (outs : Cx) (ops : Array Oper) (env0 : Env) (anc : Nat → Nat) (B0 : Nat → Nat → Prop) (h00 : Hp) (n0 : Nat)

/-- The slots that an operation may ask for. -/
structure SlotsAt (pre : List Rec) (i : Nat) (G : Gh) (a : Act) : Prop where
  made : ∀ x ∈ pre, inSet (anc i) x.i = true → ∀ t, x.o.dst = some t → VR G x.r (a.eval (.tmp t))
  kept : ∀ t, outs.o t = true → (∀ (j : Nat) (o : Oper), ops[j]? = some o → o.dst = some t → inSet (anc j) i = true) → VR G (Tr.get und (path t) env0) (a.eval (.tmp t))
  glob : GlobR P G

def PureAt (pre : List Rec) (x : Rec) : Prop := ∀ G a, SlotsAt P outs ops env0 anc pre x.i G a → ∃ v, (∀ w, (execOp a.eval x.o).run P w = .ok (.value v) w) ∧ VR G x.r v
def LookAt (pre : List Rec) (x : Rec) (h : Hp) : Prop := ∀ G w a, SlotsAt P outs ops env0 anc pre x.i G a → Rel G h w → ∃ v, (execOp a.eval x.o).run P w = .ok (.value v) w ∧ VR G x.r v
def AllocAt (pre : List Rec) (x : Rec) : Prop := ∀ G a, SlotsAt P outs ops env0 anc pre x.i G a → ∃ (blk : Go.Obj) (val : Nat → Value) (en sz : Nat), (∀ w, (execOp a.eval x.o).run P w = .ok (.value (val w.heap.size)) (w.alloc blk)) ∧ BlkOK G x.ob blk en sz ∧
  ∀ (G' : Gh) (cc : Nat), G.le G' → G'.β x.f 0 = some (cc, 0, en) → G'.sz cc = sz → VR G' x.r (val cc)
def DoAt (pre : List Rec) (x : Rec) (h : Hp) : Prop := ∀ G w a, SlotsAt P outs ops env0 anc pre x.i G a → Rel G h w → ∀ (next : Act → World → Prop) (Q : Exit → Act → World → Prop),
  (∀ G' v w', Sim G h w G' x.h1 w' → VR G' x.r v → next (a.put x.o.dst v) w') → x.o.wp P a w next Q

/-- What a guard says. -/
def WantAt (b : Bool) (pre : List Rec) (x : Rec) : Prop := ∀ G a, SlotsAt P outs ops env0 anc pre x.i G a → Region.wanted x.o (yielded ops a.tmps) = b

inductive KindOK (pre : List Rec) (h : Hp) (x : Rec) : Prop where
  | pure (hk : x.kd = 0) (hs : x.h1 = h) (hp : PureAt P outs ops env0 anc pre x) (hw : WantAt P outs ops env0 anc true pre x)
  | skip (hk : x.kd = 0) (hs : x.h1 = h) (hu : x.r = und) (hw : WantAt P outs ops env0 anc false pre x)
  | look (hk : x.kd = 1) (hs : x.h1 = h) (hl : LookAt P outs ops env0 anc pre x h) (he : ∀ y ∈ pre, 2 ≤ y.kd → inSet (anc x.i) y.i = true ∨ B0 x.i y.i) (hw : WantAt P outs ops env0 anc true pre x)
  | alloc (hk : x.kd = 2) (hs : x.h1 = Hp.up h x.f x.ob) (ha : AllocAt P outs ops env0 anc pre x) (hn : ∀ y ∈ pre, y.kd = 2 → y.f ≠ x.f) (hz : (h00 x.f).g = 0) (hi : n0 ≤ idv x.f) (hx : idv x.f < h00.nx) (hw : WantAt P outs ops env0 anc true pre x)
  | act (hk : x.kd = 3) (hd : DoAt P outs ops env0 anc pre x h) (he : ∀ y ∈ pre, 2 ≤ y.kd → inSet (anc x.i) y.i = true ∨ B0 x.i y.i) (hr : ∀ y ∈ pre, y.kd = 1 → inSet (anc x.i) y.i = true ∨ LookAt P outs ops env0 anc pre y x.h1) (hw : WantAt P outs ops env0 anc true pre x)

structure RecOK (pre : List Rec) (h : Hp) (x : Rec) : Prop where
  op : ops[x.i]? = some x.o
  new : ∀ y ∈ pre, y.i ≠ x.i
  dst : ∀ t, x.o.dst = some t → t < outs.n ∧ ∀ (j : Nat) (o' : Oper), ops[j]? = some o' → o'.dst = some t → j = x.i
  after : ∀ e ∈ x.o.after, Region.binds .any e = true → ∃ y ∈ pre, y.i = e.on
  ancs : ∀ j, inSet (anc x.i) j = true → ∃ e ∈ x.o.after, Region.binds .any e = true ∧ (e.on = j ∨ inSet (anc e.on) j = true)
  kind : KindOK P outs ops env0 anc B0 h00 n0 pre h x

inductive Log : List Rec → Hp → List Rec → Hp → Prop where
  | nil (pre : List Rec) (h : Hp) : Log pre h [] h
  | cons {pre : List Rec} {h : Hp} {x : Rec} {l : List Rec} {h' : Hp} (hx : RecOK P outs ops env0 anc B0 h00 n0 pre h x) (hl : Log (pre ++ [x]) x.h1 l h') : Log pre h (x :: l) h'
end

section
variable {P : Program} {outs : Cx} {ops : Array Oper} {env0 : Env} {anc : Nat → Nat} {B0 : Nat → Nat → Prop} {h00 : Hp} {n0 : Nat}

theorem SlotsAt.sub {pre pre' : List Rec} {i : Nat} {G : Gh} {a : Act} (h : SlotsAt P outs ops env0 anc pre i G a) (hs : ∀ x ∈ pre', x ∈ pre) : SlotsAt P outs ops env0 anc pre' i G a :=
  ⟨fun x hx => h.made x (hs x hx), h.kept, h.glob⟩

theorem Log.split : ∀ {M : List Rec} {pre : List Rec} {h : Hp} {N : List Rec} {hf : Hp}, Log P outs ops env0 anc B0 h00 n0 pre h (M ++ N) hf → ∃ h', Log P outs ops env0 anc B0 h00 n0 pre h M h' ∧ Log P outs ops env0 anc B0 h00 n0 (pre ++ M) h' N hf
  | [], pre, h, N, hf, hl => ⟨h, .nil _ _, by simpa using hl⟩
  | x :: M, pre, h, N, hf, hl => by
    cases hl with
    | cons hx hl =>
      obtain ⟨h', h1, h2⟩ := Log.split hl
      exact ⟨h', .cons hx h1, by simpa using h2⟩

theorem Log.mem {pre : List Rec} {h : Hp} {l : List Rec} {hf : Hp} (hl : Log P outs ops env0 anc B0 h00 n0 pre h l hf) : ∀ x ∈ l, ∃ M N h', l = M ++ x :: N ∧ RecOK P outs ops env0 anc B0 h00 n0 (pre ++ M) h' x := by
  induction hl with
  | nil => intro x hx; cases hx
  | cons hx hl ih =>
    intro y hy
    rcases List.mem_cons.1 hy with rfl | hy
    · exact ⟨[], _, _, rfl, by simpa using hx⟩
    · obtain ⟨M, N, h', e, hr⟩ := ih y hy
      exact ⟨_ :: M, N, h', by rw [e]; rfl, by simpa using hr⟩

/-- Those behind have other places. -/
theorem Log.new {pre : List Rec} {h : Hp} {l : List Rec} {hf : Hp} (hl : Log P outs ops env0 anc B0 h00 n0 pre h l hf) : ∀ x ∈ l, ∀ y ∈ pre, y.i ≠ x.i := fun x hx y hy => by
  obtain ⟨M, N, h', _, hr⟩ := hl.mem x hx
  exact hr.new y (by simp [hy])
theorem Log.inj {l : List Rec} {hf : Hp} {h : Hp} (hl : Log P outs ops env0 anc B0 h00 n0 [] h l hf) : ∀ x ∈ l, ∀ y ∈ l, x.i = y.i → x = y := fun x hx y hy e => by
  obtain ⟨M, N, h', e1, hr⟩ := hl.mem x hx
  rw [e1] at hy
  rcases List.mem_append.1 hy with hy | hy
  · exact absurd e.symm (hr.new y (by simpa using hy))
  · rcases List.mem_cons.1 hy with hy | hy
    · exact hy.symm
    · rw [e1] at hl
      obtain ⟨_, _, h2⟩ := Log.split (M := M ++ [x]) (N := N) (by simpa using hl)
      exact absurd e (h2.new y hy x (by simp))
theorem Log.names {pre : List Rec} {h : Hp} {l : List Rec} {hf : Hp} (hl : Log P outs ops env0 anc B0 h00 n0 pre h l hf) : ∀ x ∈ l, x.kd = 2 → ∀ y ∈ pre, y.kd = 2 → y.f ≠ x.f := fun x hx hk y hy hky => by
  obtain ⟨M, N, h', _, hr⟩ := hl.mem x hx
  cases hr.kind with
  | alloc _ _ _ hn => exact hn y (by simp [hy]) hky
  | pure h => omega
  | skip h => omega
  | look h => omega
  | act h => omega

/-- Where the heap ends. -/
def endH (h : Hp) (l : List Rec) : Hp := l.foldl (fun _ x => x.h1) h
theorem Log.ends {pre : List Rec} {h : Hp} {l : List Rec} {hf : Hp} (hl : Log P outs ops env0 anc B0 h00 n0 pre h l hf) : hf = endH h l := by
  induction hl with
  | nil => rfl
  | cons hx hl ih => exact ih
theorem Log.join : ∀ {M : List Rec} {pre : List Rec} {h h' : Hp} {N : List Rec} {hf : Hp}, Log P outs ops env0 anc B0 h00 n0 pre h M h' → Log P outs ops env0 anc B0 h00 n0 (pre ++ M) h' N hf → Log P outs ops env0 anc B0 h00 n0 pre h (M ++ N) hf
  | [], pre, h, h', N, hf, a, b => by cases a; simpa using b
  | x :: M, pre, h, h', N, hf, a, b => by
    cases a with
    | cons hx hl => exact .cons hx (Log.join hl (by simpa using b))

/-- A block that is there, and has no place yet in the evaluator's heap. -/
def Pend (G : Gh) (w : World) (x : Rec) : Prop := ∃ c en sz blk, G.β x.f 0 = some (c, 0, en) ∧ (∀ m y, G.β x.f m = some y → m = 0) ∧ w.heap[c]? = some blk ∧ G.sz c = sz ∧ BlkOK G x.ob blk en sz

structure Mem (S : Nat → Prop) (G0 : Gh) (h0 : Hp) (w0 : World) (G : Gh) (h : Hp) (w : World) (L2 : List Rec) : Prop where
  sim : Sim G0 h0 w0 G h w
  al : ∀ x ∈ L2, x.kd = 2 → (h x.f).g = 0 ∧ h0.nx ≤ idv x.f ∧ idv x.f < h.nx ∧ (S x.i → Pend G w x) ∧ (¬ S x.i → ∀ m, G.β x.f m = none)

variable {S : Nat → Prop} {G0 : Gh} {h0 : Hp} {w0 : World} {G : Gh} {h : Hp} {w : World}

theorem Mem.advance {pre : List Rec} {x : Rec} {l : List Rec} {hf : Hp} (hm : Mem S G0 h0 w0 G h w (x :: l)) (hl : Log P outs ops env0 anc B0 h00 n0 pre h (x :: l) hf) (h3 : x.kd ≠ 3) (h2 : x.kd = 2 → S x.i) : Mem S G0 h0 w0 G x.h1 w l := by
  cases hl with
  | cons hx hl =>
    cases hx.kind with
    | pure hk hs => rw [hs]; exact ⟨hm.sim, fun y hy => hm.al y (by simp [hy])⟩
    | skip hk hs => rw [hs]; exact ⟨hm.sim, fun y hy => hm.al y (by simp [hy])⟩
    | look hk hs => rw [hs]; exact ⟨hm.sim, fun y hy => hm.al y (by simp [hy])⟩
    | act hk => exact absurd hk h3
    | alloc hk hs =>
      obtain ⟨a1, a2, a3, a4, a5⟩ := hm.al x (by simp) hk
      obtain ⟨c, en, sz, blk, p1, p2, p3, p4, p5⟩ := a4 (h2 hk)
      rw [hs]
      have s := hm.sim
      have hne : ∀ f', idv f' < h0.nx → f' ≠ x.f := fun f' hf' e => by rw [e] at hf'; omega
      refine ⟨⟨s.le, s.rel.register p1 p2 p3 p4 p5, s.os, s.tape, s.output, s.size, s.frame, s.old, fun f' hf' => ?_, fun f' hf' => ?_, s.nx, s.own⟩, fun y hy hky => ?_⟩
      · rw [Hp.up_ne _ _ (hne f' hf')]; exact s.frz f' hf'
      · rw [Hp.up_ne _ _ (hne f' hf')]; exact s.keep f' hf'
      · rw [Hp.up_ne _ _ (fun e => hl.names y hy hky x (by simp) hk e.symm)]
        exact hm.al y (by simp [hy]) hky

theorem Mem.along : ∀ {M pre N : List Rec} {h hf : Hp}, Mem S G0 h0 w0 G h w (M ++ N) → Log P outs ops env0 anc B0 h00 n0 pre h (M ++ N) hf → (∀ x ∈ M, x.kd ≠ 3) → (∀ x ∈ M, x.kd = 2 → S x.i) →
    ∃ h', Log P outs ops env0 anc B0 h00 n0 (pre ++ M) h' N hf ∧ Mem S G0 h0 w0 G h' w N
  | [], pre, N, h, hf, hm, hl, _, _ => ⟨h, by simpa using hl, hm⟩
  | x :: M, pre, N, h, hf, hm, hl, h3, h2 => by
    have h1 := hm.advance hl (h3 x (by simp)) (h2 x (by simp))
    cases hl with
    | cons hx hl =>
      obtain ⟨h', a, b⟩ := Mem.along h1 hl (fun y hy => h3 y (by simp [hy])) (fun y hy => h2 y (by simp [hy]))
      exact ⟨h', by simpa using a, b⟩

theorem Mem.act {S' : Nat → Prop} {x : Rec} {l : List Rec} {G' : Gh} {h' : Hp} {w' : World} (r0 : Rel G0 h0 w0) (hm : Mem S G0 h0 w0 G h w (x :: l)) (hs : Sim G h w G' h' w') (hS : ∀ y ∈ l, S' y.i ↔ S y.i) : Mem S' G0 h0 w0 G' h' w' l := by
  refine ⟨Sim.trans r0 hm.sim hs, fun y hy hk => ?_⟩
  obtain ⟨a1, a2, a3, a4, a5⟩ := hm.al y (by simp [hy]) hk
  refine ⟨(hs.keep _ a3).1 a1, a2, Nat.lt_of_lt_of_le a3 hs.nx, fun hS1 => ?_, fun hS1 m => ?_⟩
  · obtain ⟨c, en, sz, blk, p1, p2, p3, p4, p5⟩ := a4 ((hS y hy).1 hS1)
    have hlt := (hm.sim.rel.dom _ _ _ p1).2.1
    refine ⟨c, en, sz, blk, (hs.le _ _ _ p1).1, fun m z hz => p2 m z ?_, ?_, ((hs.le _ _ _ p1).2).trans p4, p5.up hs.le⟩
    · rw [← hs.own _ _ a3 a1]; exact hz
    · rw [hs.frame c hlt ?_]; exact p3
      rintro ⟨f, m, z, hz, hzc, hg, _⟩
      have := (hm.sim.rel.uniq _ _ _ _ _ _ hz p1 hzc).1
      rw [this] at hg
      exact hg a1
  · rw [hs.own _ _ a3 a1]
    exact a5 (fun hh => hS1 ((hS y hy).2 hh)) m

theorem Mem.alloc {S' : Nat → Prop} {x : Rec} {l : List Rec} {blk : Go.Obj} {en sz : Nat} (hm : Mem S G0 h0 w0 G h w l) (hx : x ∈ l) (hk : x.kd = 2) (hu : ¬ S x.i) (hb : BlkOK G x.ob blk en sz) (hS : ∀ y ∈ l, y ≠ x → (S' y.i ↔ S y.i)) (hSx : S' x.i)
    (hd : ∀ y ∈ l, y.kd = 2 → y ≠ x → y.f ≠ x.f) :
    Mem S' G0 h0 w0 (G.put x.f 0 (w.heap.size, 0, en) sz) h (w.alloc blk) l ∧ G.le (G.put x.f 0 (w.heap.size, 0, en) sz) := by
  obtain ⟨a1, a2, a3, a4, a5⟩ := hm.al x hx hk
  have s := hm.sim
  obtain ⟨hle, hrel⟩ := s.rel.pend a3 a1 (a5 hu) blk en sz
  have hne : ∀ f', idv f' < h0.nx → f' ≠ x.f := fun f' hf' e => by rw [e] at hf'; omega
  have hb' : ∀ f' m, f' ≠ x.f → (G.put x.f 0 (w.heap.size, 0, en) sz).β f' m = G.β f' m := fun f' m hf => by simp only [Gh.put]; rw [if_neg (fun e => hf e.1)]
  refine ⟨⟨⟨G0.le_trans s.le hle, hrel, s.os, s.tape, s.output, by rw [alloc_size]; have := s.size; omega, fun c hc hi => ?_, fun f m z hz hs => ?_, s.frz, s.keep, s.nx, fun f m hf h0' => ?_⟩, fun y hy hky => ?_⟩, hle⟩
  · rw [alloc_there w blk (by have := s.size; omega)]; exact s.frame c hc hi
  · rcases Gh.put_cases hz with ⟨rfl, rfl, rfl⟩ | ⟨_, hz'⟩
    · have := s.size; simp only at hs; omega
    · exact s.old f m z hz' hs
  · rw [hb' f m (hne f hf)]; exact s.own f m hf h0'
  · by_cases hyx : y = x
    · subst hyx
      refine ⟨a1, a2, a3, fun _ => ⟨w.heap.size, en, sz, blk, Gh.put_same _ _ _ _ _, fun m z hz => ?_, alloc_here _ _, by simp [Gh.put], hb.up hle⟩, fun hn => absurd hSx hn⟩
      rcases Gh.put_cases hz with ⟨_, hm0, _⟩ | ⟨_, hz'⟩
      · exact hm0
      · rw [a5 hu] at hz'; cases hz'
    · obtain ⟨b1, b2, b3, b4, b5⟩ := hm.al y hy hky
      have hf := hd y hy hky hyx
      refine ⟨b1, b2, b3, fun hS1 => ?_, fun hS1 m => ?_⟩
      · obtain ⟨c, en', sz', blk', p1, p2, p3, p4, p5⟩ := b4 ((hS y hy hyx).1 hS1)
        have hlt := (s.rel.dom _ _ _ p1).2.1
        simp only at hlt
        refine ⟨c, en', sz', blk', by rw [hb' _ _ hf]; exact p1, fun m z hz => p2 m z (by rw [hb' _ _ hf] at hz; exact hz), by rw [alloc_there w blk (by omega)]; exact p3, ((hle _ _ _ p1).2).trans p4, p5.up hle⟩
      · rw [hb' _ _ hf]; exact b5 (fun hh => hS1 ((hS y hy hyx).2 hh)) m
end
end Go.Ev
namespace Go.Ev
open Go

section
variable {P : Program} {outs : Cx} {ops : Array Oper} {env0 : Env} {anc : Nat → Nat} {B0 : Nat → Nat → Prop} {h00 : Hp} {n0 : Nat}

def Li (listed : Array Bool) (i : Nat) : Prop := listed.getD i false = true
theorem li_set {listed : Array Bool} {i j : Nat} (hi : i < listed.size) : Li (listed.setIfInBounds i true) j ↔ (j = i ∨ Li listed j) := by
  unfold Li
  by_cases h : i = j
  · subst h; simp [hi]
  · rw [getD_set_ne false h]
    constructor
    · exact .inr
    · rintro (e | e)
      · exact absurd e.symm h
      · exact e
theorem li_true {listed : Array Bool} {j : Nat} (hj : j < listed.size) : listed.getD j true = false ↔ ¬ Li listed j := by
  unfold Li; simp [hj]

/-- Where all orders stand. -/
structure Inv (P : Program) (outs : Cx) (ops : Array Oper) (env0 : Env) (anc : Nat → Nat) (B0 : Nat → Nat → Prop) (h00 : Hp) (n0 : Nat) (G0 : Gh) (h0 : Hp) (w0 : World) (L : List Rec) (hf : Hp) (L1 L2 : List Rec) (listed : Array Bool) (h : Hp) (G : Gh) (w : World) (a : Act) : Prop where
  mem : Mem (Li listed) G0 h0 w0 G h w L2
  eq : L = L1 ++ L2
  log : Log P outs ops env0 anc B0 h00 n0 L1 h L2 hf
  past : h = endH h00 L1
  done : ∀ x ∈ L1, 2 ≤ x.kd → Li listed x.i
  todo : ∀ x ∈ L2, x.kd = 3 → ¬ Li listed x.i
  look : ∀ x ∈ L1, x.kd = 1 → ¬ Li listed x.i → LookAt P outs ops env0 anc L x h
  made : ∀ x ∈ L, Li listed x.i → ∀ t, x.o.dst = some t → VR G x.r (a.eval (.tmp t))
  kept : ∀ t, outs.o t = true → (∀ (j : Nat) (o : Oper), ops[j]? = some o → o.dst = some t → ¬ Li listed j) → VR G (Tr.get und (path t) env0) (a.eval (.tmp t))
  glob : GlobR P G
  size : outs.n ≤ a.tmps.size
  defers : a.defers = []
  lsize : listed.size = ops.size
  down : ∀ i, Li listed i → ∀ j, inSet (anc i) j = true → Li listed j

variable {G0 : Gh} {h0 : Hp} {w0 : World} {L : List Rec} {hf : Hp}

/-- The slots after one more. -/
theorem made_put {L : List Rec} {G G' : Gh} {listed : Array Bool} {a : Act} {x : Rec} {v : Value} (hx : x ∈ L) (hinj : ∀ x ∈ L, ∀ y ∈ L, x.i = y.i → x = y) (hrec : ∀ x ∈ L, ∃ pre h, (∀ y ∈ pre, y ∈ L) ∧ RecOK P outs ops env0 anc B0 h00 n0 pre h x)
    (hsize : outs.n ≤ a.tmps.size) (hlt : x.i < listed.size) (hle : G.le G') (hv : VR G' x.r v) (made : ∀ x ∈ L, Li listed x.i → ∀ t, x.o.dst = some t → VR G x.r (a.eval (.tmp t))) :
    ∀ y ∈ L, Li (listed.setIfInBounds x.i true) y.i → ∀ t, y.o.dst = some t → VR G' y.r ((a.put x.o.dst v).eval (.tmp t)) := fun y hy hl t ht => by
  obtain ⟨_, _, _, hr⟩ := hrec x hx
  obtain ⟨_, _, _, hry⟩ := hrec y hy
  by_cases hyx : y.i = x.i
  · have := hinj y hy x hx hyx
    subst this
    rw [ht, eval_put_same (Nat.lt_of_lt_of_le (hr.dst t ht).1 hsize)]
    exact hv
  · have hly : Li listed y.i := by
      rcases (li_set hlt).1 hl with e | e
      · exact absurd e hyx
      · exact e
    have := (made y hy hly t ht).up hle
    cases hd : x.o.dst with
    | none => exact this
    | some s =>
      have hst : s ≠ t := fun e => by
        subst e
        exact hyx ((hr.dst s hd).2 _ _ hry.op ht)
      rw [eval_put_ne hst]; exact this
theorem kept_put {G G' : Gh} {a : Act} {i : Nat} {o : Oper} {v : Value} {listed : Array Bool} (hop : ops[i]? = some o) (hlt : i < listed.size) (hle : G.le G')
    (kept : ∀ t, outs.o t = true → (∀ (j : Nat) (o : Oper), ops[j]? = some o → o.dst = some t → ¬ Li listed j) → VR G (Tr.get und (path t) env0) (a.eval (.tmp t))) :
    ∀ t, outs.o t = true → (∀ (j : Nat) (o : Oper), ops[j]? = some o → o.dst = some t → ¬ Li (listed.setIfInBounds i true) j) → VR G' (Tr.get und (path t) env0) ((a.put o.dst v).eval (.tmp t)) := fun t ht hno => by
  have := (kept t ht fun j o hj hd hl => hno j o hj hd ((li_set hlt).2 (.inr hl))).up hle
  cases hd : o.dst with
  | none => exact this
  | some s =>
    have hst : s ≠ t := fun e => by subst e; exact hno _ _ hop hd ((li_set hlt).2 (.inl rfl))
    rw [eval_put_ne hst]; exact this
theorem put_size (a : Act) (d : Option Tmp) (v : Value) : (a.put d v).tmps.size = a.tmps.size := by cases d <;> simp [Act.put]
theorem put_defers (a : Act) (d : Option Tmp) (v : Value) : (a.put d v).defers = a.defers := by cases d <;> rfl

theorem count_set {L : List Rec} {x : Rec} {listed : Array Bool} (hx : x ∈ L) (hlt : x.i < listed.size) (hu : ¬ Li listed x.i) {n : Nat} (h : L.countP (fun y => !listed.getD y.i false) ≤ n + 1) : L.countP (fun y => !(listed.setIfInBounds x.i true).getD y.i false) ≤ n := by
  have key : ∀ (L : List Rec), L.countP (fun y => !(listed.setIfInBounds x.i true).getD y.i false) ≤ L.countP (fun y => !listed.getD y.i false) ∧ (x ∈ L → L.countP (fun y => !(listed.setIfInBounds x.i true).getD y.i false) + 1 ≤ L.countP (fun y => !listed.getD y.i false)) := fun L => by
    induction L with
    | nil => exact ⟨Nat.le_refl _, fun h => by cases h⟩
    | cons y L ih =>
      rw [List.countP_cons, List.countP_cons]
      have hy : (if (!(listed.setIfInBounds x.i true).getD y.i false) = true then 1 else 0) ≤ (if (!listed.getD y.i false) = true then 1 else 0) := by
        by_cases hl : Li listed y.i
        · have : Li (listed.setIfInBounds x.i true) y.i := (li_set hlt).2 (.inr hl)
          unfold Li at this hl; rw [this, hl]; simp
        · unfold Li at hl
          have : listed.getD y.i false = false := by simpa using hl
          rw [this]; split <;> simp
      refine ⟨by omega, fun hm => ?_⟩
      rcases List.mem_cons.1 hm with rfl | hm
      · have h1 : Li (listed.setIfInBounds x.i true) x.i := (li_set hlt).2 (.inl rfl)
        unfold Li at h1 hu
        have h2 : listed.getD x.i false = false := by simpa using hu
        have e1 : (if (!(listed.setIfInBounds x.i true).getD x.i false) = true then 1 else 0) = 0 := by rw [h1]; rfl
        have e2 : (if (!listed.getD x.i false) = true then 1 else 0) = 1 := by rw [h2]; rfl
        omega
      · have := ih.2 hm; omega
  have := (key L).2 hx
  omega

/-- ONE STEP OF ANY ORDER. -/
theorem step_ok {Q : Exit → Act → World → Prop} (r0 : Rel G0 h0 w0) (hlog : Log P outs ops env0 anc B0 h00 n0 [] h00 L hf) {fuel : Nat} {listed : Array Bool} {a : Act} {w : World} {G : Gh} {L1 L2 : List Rec} {h : Hp} (I : Inv P outs ops env0 anc B0 h00 n0 G0 h0 w0 L hf L1 L2 listed h G w a)
    {x : Rec} (hx : x ∈ L) (hi : x.i ∈ Region.ready .any ops listed) (hB : ∀ y ∈ L, B0 x.i y.i → Li listed y.i)
    (ih : ∀ (a : Act) (w : World) (G : Gh) (L1 L2 : List Rec) (h : Hp), Inv P outs ops env0 anc B0 h00 n0 G0 h0 w0 L hf L1 L2 (listed.setIfInBounds x.i true) h G w a → wpAny P .any ops Q fuel (listed.setIfInBounds x.i true) a w) :
    wpOp P ops Q x.i (wpAny P .any ops Q fuel (listed.setIfInBounds x.i true)) a w := by
  have hinj := hlog.inj
  have hrec : ∀ x ∈ L, ∃ pre h, (∀ y ∈ pre, y ∈ L) ∧ RecOK P outs ops env0 anc B0 h00 n0 pre h x := fun x hx => by
    obtain ⟨M, N, h', e, hr⟩ := hlog.mem x hx
    exact ⟨[] ++ M, h', fun y hy => by rw [e]; simp at hy; simp [hy], hr⟩
  obtain ⟨hit, o, ho, haft⟩ := mem_ready.1 hi
  have hlt : x.i < ops.size := (Array.getElem?_eq_some_iff.1 ho).1
  obtain ⟨pre, hh, hpre, hr⟩ := hrec x hx
  have hou : x.o = o := by
    have := hr.op
    rw [ho] at this; cases this; rfl
  subst hou
  have hun : ¬ Li listed x.i := (li_true (by rw [I.lsize]; exact hlt)).1 hit
  have hltl : x.i < listed.size := by rw [I.lsize]; exact hlt
  have hancs : ∀ j, inSet (anc x.i) j = true → Li listed j := fun j hj => by
    obtain ⟨e, he, hb, hej⟩ := hr.ancs j hj
    have hle := haft e he hb
    rcases hej with rfl | hej
    · exact hle
    · obtain ⟨y, hy, hye⟩ := hr.after e he hb
      rw [← hye] at hle hej
      exact I.down y.i hle j hej
  have hslots : SlotsAt P outs ops env0 anc L x.i G a := ⟨fun y hy hyi t ht => I.made y hy (hancs _ hyi) t ht, fun t ht hw => I.kept t ht fun j o hj hd hl => hun (I.down j hl _ (hw j o hj hd)), I.glob⟩
  have hset : ∀ j, Li (listed.setIfInBounds x.i true) j ↔ (j = x.i ∨ Li listed j) := fun j => li_set hltl
  have hdown : ∀ i, Li (listed.setIfInBounds x.i true) i → ∀ j, inSet (anc i) j = true → Li (listed.setIfInBounds x.i true) j := fun i hl j hj => by
    rcases (hset _).1 hl with e | e
    · rw [e] at hj; exact (hset _).2 (.inr (hancs j hj))
    · exact (hset _).2 (.inr (I.down i e j hj))
  have hL1 : ∀ y ∈ L1, y ∈ L := fun y hy => by rw [I.eq]; simp [hy]
  have hL2 : ∀ y ∈ L2, y ∈ L := fun y hy => by rw [I.eq]; simp [hy]
  -- what stays where no place changes hands
  have stay : ∀ (G' : Gh) (w' : World) (v : Value), G.le G' → Mem (Li (listed.setIfInBounds x.i true)) G0 h0 w0 G' h w' L2 → VR G' x.r v → x.kd ≠ 3 → wpAny P .any ops Q fuel (listed.setIfInBounds x.i true) (a.put x.o.dst v) w' := fun G' w' v hle hm hv h3 =>
    ih _ _ G' L1 L2 h {
      mem := hm
      eq := I.eq
      log := I.log
      past := I.past
      done := fun y hy hk => (hset _).2 (.inr (I.done y hy hk))
      todo := fun y hy hk hl => by
        rcases (hset _).1 hl with e | e
        · have := hinj y (hL2 y hy) x hx e
          rw [this] at hk; exact h3 hk
        · exact I.todo y hy hk e
      look := fun y hy hk hl => I.look y hy hk (fun e => hl ((hset _).2 (.inr e)))
      made := made_put hx hinj hrec I.size hltl hle hv I.made
      kept := kept_put hr.op hltl hle I.kept
      glob := I.glob.up hle
      size := by rw [put_size]; exact I.size
      defers := by rw [put_defers]; exact I.defers
      lsize := by simpa using I.lsize
      down := hdown }
  have same : Mem (Li (listed.setIfInBounds x.i true)) G0 h0 w0 G h w L2 ∨ x.kd = 2 := by
    by_cases hk : x.kd = 2
    · exact .inr hk
    · refine .inl ⟨I.mem.sim, fun y hy hky => ?_⟩
      obtain ⟨a1, a2, a3, a4, a5⟩ := I.mem.al y hy hky
      have hyx : y.i ≠ x.i := fun e => by
        have := hinj y (hL2 y hy) x hx e
        rw [this] at hky; exact hk hky
      refine ⟨a1, a2, a3, fun hS => a4 ?_, fun hS => a5 fun e => hS ((hset _).2 (.inr e))⟩
      rcases (hset _).1 hS with e | e
      · exact absurd e hyx
      · exact e
  -- what stands ahead of one that looks or acts
  have ahead : 2 ≤ x.kd ∨ x.kd = 1 → x.kd ≠ 2 → x ∈ L2 → ∃ M N h', L2 = M ++ x :: N ∧ Log P outs ops env0 anc B0 h00 n0 (L1 ++ M) h' (x :: N) hf ∧ Mem (Li listed) G0 h0 w0 G h' w (x :: N) ∧ (∀ y ∈ M, y.kd ≠ 3) ∧ (∀ y ∈ M, 2 ≤ y.kd → Li listed y.i) := fun hk hk2 hx2 => by
    obtain ⟨M, N, e⟩ := List.append_of_mem hx2
    have hlg := I.log
    have hmm := I.mem
    rw [e] at hlg hmm
    obtain ⟨h', l1, l2⟩ := hlg.split
    have he : ∀ y ∈ L1 ++ M, 2 ≤ y.kd → inSet (anc x.i) y.i = true ∨ B0 x.i y.i := by
      cases l2 with
      | cons hrx _ =>
        cases hrx.kind with
        | pure h => omega
        | skip h => omega
        | alloc h => omega
        | look _ _ _ he => exact he
        | act _ _ he => exact he
    have hM : ∀ y ∈ M, 2 ≤ y.kd → Li listed y.i := fun y hy hky => (he y (by simp [hy]) hky).elim (hancs _) (hB y (by rw [I.eq, e]; simp [hy]))
    have hM3 : ∀ y ∈ M, y.kd ≠ 3 := fun y hy hky => I.todo y (by rw [e]; simp [hy]) hky (hM y hy (by omega))
    obtain ⟨h'', l3, m3⟩ := Mem.along hmm hlg hM3 (fun y hy hky => hM y hy (by omega))
    exact ⟨M, N, h'', e, l3, m3, hM3, hM⟩
  show wpOp P ops Q x.i _ a w
  have acts : ∀ {K : Act → World → Prop}, Region.wanted x.o (yielded ops a.tmps) = true → x.o.wp P a w K Q → wpOp P ops Q x.i K a w := fun hw hh => by
    unfold wpOp
    simp only [ho]
    rw [if_pos hw]
    exact .inl hh
  have value : ∀ v, (execOp a.eval x.o).run P w = .ok (.value v) w → VR G x.r v → x.kd ≠ 2 → x.kd ≠ 3 → x.o.wp P a w (wpAny P .any ops Q fuel (listed.setIfInBounds x.i true)) Q := fun v hv hvr h2 h3 => by
    unfold Oper.wp
    rw [hv]
    exact stay G w v G.le_refl (same.resolve_right h2) hvr h3
  have hcases : x ∈ L1 ∨ x ∈ L2 := by
    have := hx
    rw [I.eq] at this
    exact List.mem_append.1 this
  cases hr.kind with
  | skip hk hs hu hw =>
    unfold wpOp
    simp only [ho]
    rw [if_neg (by rw [hw G a (hslots.sub hpre)]; simp)]
    exact stay G w undef G.le_refl (same.resolve_right (by omega)) (by rw [hu]; exact VR.und) (by omega)
  | pure hk hs hp hw =>
    refine acts (hw G a (hslots.sub hpre)) ?_
    obtain ⟨v, hv, hvr⟩ := hp G a (hslots.sub hpre)
    exact value v (hv w) hvr (by omega) (by omega)
  | look hk hs hl he hw =>
    refine acts (hw G a (hslots.sub hpre)) ?_
    rcases hcases with h1 | h2
    · obtain ⟨v, hv, hvr⟩ := I.look x h1 hk hun G w a hslots I.mem.sim.rel
      exact value v hv hvr (by omega) (by omega)
    · obtain ⟨M, N, h', e, l3, m3, _, _⟩ := ahead (.inr hk) (by omega) h2
      cases l3 with
      | cons hrx _ =>
        cases hrx.kind with
        | look _ _ hl' _ _ =>
          obtain ⟨v, hv, hvr⟩ := hl' G w a (hslots.sub fun y hy => by
            rw [I.eq, e]
            rcases List.mem_append.1 hy with hy | hy
            · simp [hy]
            · simp [hy]) m3.sim.rel
          exact value v hv hvr (by omega) (by omega)
        | pure h => omega
        | skip h => omega
        | alloc h => omega
        | act h => omega
  | alloc hk hs ha hn hz hi' hx' hw =>
    refine acts (hw G a (hslots.sub hpre)) ?_
    rcases hcases with h1 | h2
    · exact absurd (I.done x h1 (by omega)) hun
    · obtain ⟨blk, val, en, sz, b1, b2, b3⟩ := ha G a (hslots.sub hpre)
      obtain ⟨m4, hle⟩ := I.mem.alloc (S' := Li (listed.setIfInBounds x.i true)) h2 hk hun b2 (fun y hy hyx => ⟨fun hl => by
          rcases (hset _).1 hl with e | e
          · exact absurd (hinj y (hL2 y hy) x hx e) hyx
          · exact e, fun hl => (hset _).2 (.inr hl)⟩) ((hset _).2 (.inl rfl)) (fun y hy hky hyx => by
        -- names differ
        obtain ⟨M, N, h', e, hrx⟩ := hlog.mem x hx
        have hyL := hL2 y hy
        rw [e] at hyL
        rcases List.mem_append.1 hyL with hyM | hyN
        · cases hrx.kind with
          | alloc _ _ _ hn => exact hn y (by simpa using hyM) hky
          | pure h => omega
          | skip h => omega
          | look h => omega
          | act h => omega
        · rcases List.mem_cons.1 hyN with hyN | hyN
          · exact absurd hyN hyx
          · rw [e] at hlog
            obtain ⟨_, _, l2⟩ := Log.split (M := M ++ [x]) (N := N) (by simpa using hlog)
            exact fun ef => l2.names y hyN hky x (by simp) hk ef.symm)
      unfold Oper.wp
      rw [b1]
      exact stay _ _ _ hle m4 (b3 _ _ hle (Gh.put_same _ _ _ _ _) (by simp [Gh.put])) (by omega)
  | act hk hd he hr' hw =>
    refine acts (hw G a (hslots.sub hpre)) ?_
    rcases hcases with h1 | h2
    · exact absurd (I.done x h1 (by omega)) hun
    · obtain ⟨M, N, h', e, l3, m3, hM3, hM⟩ := ahead (.inl (by omega)) (by omega) h2
      have hsubM : ∀ y ∈ L1 ++ M, y ∈ L := fun y hy => by
        rw [I.eq, e]
        rcases List.mem_append.1 hy with hy | hy
        · simp [hy]
        · simp [hy]
      have hNL2 : ∀ y ∈ N, y ∈ L2 := fun y hy => by rw [e]; simp [hy]
      cases l3 with
      | cons hrx lN =>
        cases hrx.kind with
        | act _ hd' he' hr'' _ =>
          refine hd' G w a (hslots.sub hsubM) m3.sim.rel _ Q fun G' v w' sim hv => ?_
          refine ih _ _ G' (L1 ++ M ++ [x]) N x.h1 {
            mem := m3.act r0 sim fun y hy => ⟨fun hl => by
              rcases (hset _).1 hl with e' | e'
              · exact absurd e'.symm (lN.new y hy x (by simp))
              · exact e', fun hl => (hset _).2 (.inr hl)⟩
            eq := by rw [I.eq, e]; simp
            log := lN
            past := by simp [endH]
            done := fun y hy hky => by
              rcases List.mem_append.1 hy with hy | hy
              · rcases List.mem_append.1 hy with hy | hy
                · exact (hset _).2 (.inr (I.done y hy hky))
                · exact (hset _).2 (.inr (hM y hy hky))
              · simp at hy; rw [hy]; exact (hset _).2 (.inl rfl)
            todo := fun y hy hky hl => by
              rcases (hset _).1 hl with e' | e'
              · exact absurd e'.symm (lN.new y hy x (by simp))
              · exact I.todo y (hNL2 y hy) hky e'
            look := fun y hy hky hl => by
              rcases List.mem_append.1 hy with hy | hy
              · rcases hr'' y hy hky with e' | e'
                · exact absurd ((hset _).2 (.inr (hancs _ e'))) hl
                · exact fun G w a hs => e' G w a (hs.sub hsubM)
              · simp at hy; rw [hy] at hky; omega
            made := made_put hx hinj hrec I.size hltl sim.le hv I.made
            kept := kept_put hr.op hltl sim.le I.kept
            glob := I.glob.up sim.le
            size := by rw [put_size]; exact I.size
            defers := by rw [put_defers]; exact I.defers
            lsize := by simpa using I.lsize
            down := hdown }
        | pure h => omega
        | skip h => omega
        | look h => omega
        | alloc h => omega

theorem any_ok {Q : Exit → Act → World → Prop} (r0 : Rel G0 h0 w0) (hlog : Log P outs ops env0 anc B0 h00 n0 [] h00 L hf) (hcov : ∀ i, i < ops.size → ∃ x ∈ L, x.i = i)
    (I0 : Array Bool → Prop) (J : Array Bool → Nat → Prop) (hI0 : ∀ listed i, i < listed.size → I0 listed → I0 (listed.setIfInBounds i true)) (hB : ∀ listed, I0 listed → ∀ x ∈ L, ¬ J listed x.i → ∀ y ∈ L, B0 x.i y.i → Li listed y.i)
    (hjump : ∀ (fuel : Nat) (listed : Array Bool) (a : Act) (w : World) (G : Gh) (L1 L2 : List Rec) (h : Hp), Inv P outs ops env0 anc B0 h00 n0 G0 h0 w0 L hf L1 L2 listed h G w a → I0 listed → L.countP (fun x => !listed.getD x.i false) ≤ fuel + 1 → ∀ x ∈ L, J listed x.i → x.i ∈ Region.ready .any ops listed → wpOp P ops Q x.i (wpAny P .any ops Q fuel (listed.setIfInBounds x.i true)) a w)
    (hQ : ∀ G a w, Sim G0 h0 w0 G hf w → (∀ x ∈ L, ∀ t, x.o.dst = some t → VR G x.r (a.eval (.tmp t))) →
      (∀ t, outs.o t = true → (∀ (j : Nat) (o : Oper), ops[j]? = some o → o.dst ≠ some t) → VR G (Tr.get und (path t) env0) (a.eval (.tmp t))) → outs.n ≤ a.tmps.size → a.defers = [] → Q .normal a w) :
    ∀ (fuel : Nat) (listed : Array Bool) (a : Act) (w : World) (G : Gh) (L1 L2 : List Rec) (h : Hp), Inv P outs ops env0 anc B0 h00 n0 G0 h0 w0 L hf L1 L2 listed h G w a → I0 listed → L.countP (fun x => !listed.getD x.i false) ≤ fuel → wpAny P .any ops Q fuel listed a w := by
  have hinj := hlog.inj
  have hrec : ∀ x ∈ L, ∃ pre h, (∀ y ∈ pre, y ∈ L) ∧ RecOK P outs ops env0 anc B0 h00 n0 pre h x := fun x hx => by
    obtain ⟨M, N, h', e, hr⟩ := hlog.mem x hx
    exact ⟨[] ++ M, h', fun y hy => by rw [e]; simp at hy; simp [hy], hr⟩
  have hix : ∀ x ∈ L, x.i < ops.size := fun x hx => by
    obtain ⟨_, _, _, hr⟩ := hrec x hx
    exact (Array.getElem?_eq_some_iff.1 hr.op).1
  -- the end
  have fin : ∀ (listed : Array Bool) (a : Act) (w : World) (G : Gh) (L1 L2 : List Rec) (h : Hp), Inv P outs ops env0 anc B0 h00 n0 G0 h0 w0 L hf L1 L2 listed h G w a → (∀ x ∈ L, Li listed x.i) → Q .normal a w := fun listed a w G L1 L2 h I hall => by
    have hsub : ∀ x ∈ L2, x ∈ L := fun x hx => by rw [I.eq]; simp [hx]
    have I1 := I.mem
    have I2 := I.log
    rw [← List.append_nil L2] at I1 I2
    obtain ⟨h', l1, m1⟩ := Mem.along I1 I2 (fun x hx e => I.todo x hx e (hall x (hsub x hx))) (fun x hx _ => hall x (hsub x hx))
    cases l1
    exact hQ G a w m1.sim (fun x hx => I.made x hx (hall x hx)) (fun t ht hno => I.kept t ht fun j o hj hd _ => hno j o hj hd) I.size I.defers
  -- the first that is not listed is ready
  have first : ∀ (listed : Array Bool), listed.size = ops.size → Region.ready .any ops listed = [] → ∀ x ∈ L, Li listed x.i := fun listed hls hr => by
    have go : ∀ (M N : List Rec), L = M ++ N → (∀ x ∈ M, Li listed x.i) → ∀ x ∈ N, Li listed x.i := fun M N => by
      induction N generalizing M with
      | nil => intro _ _ x hx; cases hx
      | cons y N ih =>
        intro e hM
        have hy : Li listed y.i := by
          apply Classical.byContradiction
          intro hn
          rw [e] at hlog
          obtain ⟨h', _, l2⟩ := hlog.split
          cases l2 with
          | cons hry _ =>
            have hyL : y ∈ L := by rw [e]; simp
            have hlt := hix y hyL
            have : y.i ∈ Region.ready .any ops listed := mem_ready.2 ⟨(li_true (by omega)).2 hn, y.o, hry.op, fun ed hed hb => by
              obtain ⟨z, hz, hzi⟩ := hry.after ed hed hb
              rw [← hzi]
              exact hM z (by simpa using hz)⟩
            rw [hr] at this; cases this
        intro x hx
        rcases List.mem_cons.1 hx with rfl | hx
        · exact hy
        · exact ih (M ++ [y]) (by rw [e]; simp) (fun z hz => by
            rcases List.mem_append.1 hz with hz | hz
            · exact hM z hz
            · simp at hz; rw [hz]; exact hy) x hx
    exact go [] L rfl (fun x hx => by cases hx)
  intro fuel
  induction fuel with
  | zero =>
    intro listed a w G L1 L2 h I _ hc
    have hall : ∀ x ∈ L, Li listed x.i := fun x hx => by
      have h0 : L.countP (fun x => !listed.getD x.i false) = 0 := by omega
      rw [List.countP_eq_zero] at h0
      have := h0 x hx
      unfold Li; simpa using this
    refine ⟨?_, fin listed a w G L1 L2 h I hall⟩
    apply List.eq_nil_iff_forall_not_mem.2
    intro j hj
    obtain ⟨hjt, o, ho, _⟩ := mem_ready.1 hj
    have hlt : j < ops.size := (Array.getElem?_eq_some_iff.1 ho).1
    obtain ⟨x, hx, hxj⟩ := hcov j hlt
    have := hall x hx
    rw [hxj] at this
    exact (li_true (by rw [I.lsize]; exact hlt)).1 hjt this
  | succ fuel ih =>
    intro listed a w G L1 L2 h I hI hc
    refine ⟨fun hr => fin listed a w G L1 L2 h I (first listed I.lsize hr), fun i hi => ?_⟩
    obtain ⟨hit, o, ho, _⟩ := mem_ready.1 hi
    have hlt : i < ops.size := (Array.getElem?_eq_some_iff.1 ho).1
    obtain ⟨x, hx, rfl⟩ := hcov i hlt
    have hltl : x.i < listed.size := by rw [I.lsize]; exact hlt
    have hun : ¬ Li listed x.i := (li_true hltl).1 hit
    by_cases hj : J listed x.i
    · exact hjump fuel listed a w G L1 L2 h I hI hc x hx hj hi
    · exact step_ok r0 hlog I hx hi (hB listed hI x hx hj) fun a w G L1 L2 h I' => ih _ a w G L1 L2 h I' (hI0 listed x.i hltl hI) (count_set hx hltl hun hc)
end
end Go.Ev
namespace Go.Ev
open Go

theorem inSet_bit (s t : Nat) : inSet s t = s.testBit t := by
  unfold inSet
  rw [Nat.testBit]
  have h1 : Nat.shiftRight s t = s >>> t := rfl
  rw [h1]
  have h2 : (1 &&& (s >>> t)) = (s >>> t) % 2 := by rw [Nat.and_comm]; exact Nat.and_one_is_mod _
  rw [h2]
  have h3 : Nat.mod (s >>> t) 2 = (s >>> t) % 2 := rfl
  rw [h3]
  rcases Nat.mod_two_eq_zero_or_one (s >>> t) with h | h <;> rw [h] <;> rfl
theorem inSet_add (s t u : Nat) : inSet (addTo s t) u = true ↔ (u = t ∨ inSet s u = true) := by
  rw [inSet_bit, inSet_bit]
  unfold addTo
  have h1 : Nat.lor s (Nat.shiftLeft 1 t) = s ||| (1 <<< t) := rfl
  rw [h1, Nat.testBit_or, Nat.testBit_shiftLeft]
  by_cases h : u = t
  · subst h; simp
  · have : (decide (u ≥ t) && Nat.testBit 1 (u - t)) = false := by
      by_cases hge : u ≥ t
      · have : u - t ≠ 0 := by omega
        obtain ⟨k, hk⟩ := Nat.exists_eq_succ_of_ne_zero this
        rw [hk]
        simp [Nat.testBit_succ]
      · simp [hge]
    rw [this]; simp [h]
theorem inSet_zero (u : Nat) : ¬ inSet 0 u = true := by rw [inSet_bit]; simp
theorem inSet_or (s t u : Nat) : inSet (Nat.lor s t) u = true ↔ (inSet s u = true ∨ inSet t u = true) := by
  rw [inSet_bit, inSet_bit, inSet_bit]
  have h1 : Nat.lor s t = s ||| t := rfl
  rw [h1, Nat.testBit_or]; simp
theorem subM_ok {s t : Nat} (h : subM s t = true) {u : Nat} (hu : inSet s u = true) : inSet t u = true := by
  unfold subM at h
  rw [beq_iff] at h
  rw [inSet_bit] at hu ⊢
  have h1 : Nat.land s t = s &&& t := rfl
  rw [h1] at h
  rw [← h, Nat.testBit_and] at hu
  simp at hu; exact hu.2
theorem opAt_eq : ∀ (l : List Oper) (i : Nat), opAt l i = l[i]?
  | [], i => rfl
  | o :: l, 0 => rfl
  | o :: l, i + 1 => by
    show opAt l i = _
    rw [opAt_eq l i]; simp
theorem bindsA_eq (e : Edge) : bindsA e = Region.binds .any e := by
  unfold bindsA Region.binds
  split <;> simp_all <;> rfl
theorem ancE_in {f : Nat → Nat} : ∀ {es : List Edge} {j : Nat}, inSet (ancE f es) j = true → ∃ e ∈ es, Region.binds .any e = true ∧ (e.on = j ∨ inSet (f e.on) j = true)
  | [], j, h => absurd h (inSet_zero j)
  | e :: es, j, h => by
    have h : inSet (bsel (bindsA e) (Nat.lor (addTo (f e.on) e.on) (ancE f es)) (ancE f es)) j = true := h
    cases hb : bindsA e with
    | false =>
      rw [hb] at h
      obtain ⟨e', h1, h2⟩ := ancE_in (es := es) h
      exact ⟨e', by simp [h1], h2⟩
    | true =>
      rw [hb] at h
      rcases (inSet_or _ _ _).1 h with h | h
      · refine ⟨e, by simp, by rw [← bindsA_eq]; exact hb, ?_⟩
        rcases (inSet_add _ _ _).1 h with h | h
        · exact .inl h.symm
        · exact .inr h
      · obtain ⟨e', h1, h2⟩ := ancE_in (es := es) h
        exact ⟨e', by simp [h1], h2⟩
theorem ancE_of {f : Nat → Nat} : ∀ {es : List Edge} {e : Edge}, e ∈ es → Region.binds .any e = true → inSet (ancE f es) e.on = true
  | e' :: es, e, h, hb => by
    show inSet (bsel (bindsA e') (Nat.lor (addTo (f e'.on) e'.on) (ancE f es)) (ancE f es)) e.on = true
    rcases List.mem_cons.1 h with rfl | h
    · rw [bindsA_eq, hb]
      exact (inSet_or _ _ _).2 (.inl ((inSet_add _ _ _).2 (.inl rfl)))
    · have := ancE_of (f := f) h hb
      cases bindsA e' with
      | false => exact this
      | true => exact (inSet_or _ _ _).2 (.inr this)
theorem wrOf_ok {u : Nat} : ∀ {l : List Oper} {i j : Nat} {o : Oper}, l[j]? = some o → dstNo o.dst = u → inSet (wrOf l i u) (i + j) = true
  | [], i, j, o, h, _ => by simp at h
  | x :: l, i, 0, o, h, hu => by
    simp at h
    subst h
    show inSet (bsel (Nat.beq (dstNo x.dst) u) (addTo (wrOf l (i + 1) u) i) (wrOf l (i + 1) u)) (i + 0) = true
    rw [(beq_iff _ _).2 hu]
    exact (inSet_add _ _ _).2 (.inl rfl)
  | x :: l, i, j + 1, o, h, hu => by
    have ih := wrOf_ok (l := l) (i := i + 1) (j := j) (o := o) (by simpa using h) hu
    rw [show i + 1 + j = i + (j + 1) from by omega] at ih
    show inSet (bsel (Nat.beq (dstNo x.dst) u) (addTo (wrOf l (i + 1) u) i) (wrOf l (i + 1) u)) (i + (j + 1)) = true
    cases Nat.beq (dstNo x.dst) u with
    | false => exact ih
    | true => exact (inSet_add _ _ _).2 (.inr ih)
theorem allSet_ok {D : Nat} : ∀ {n i : Nat}, allSet D n = true → i < n → inSet D i = true
  | n + 1, i, h, hi => by
    have h : nand (inSet D n) (allSet D n) = true := h
    rw [nand_eq, Bool.and_eq_true] at h
    by_cases hn : i = n
    · rw [hn]; exact h.1
    · exact allSet_ok h.2 (by omega)
theorem usesIn_ok {dx : Dx} {a : Nat} : ∀ {xs : List Operand}, usesIn dx a xs = true → ∀ t, Operand.tmp t ∈ xs → ∀ (j : Nat) (o : Oper), dx.ops[j]? = some o → o.dst = some t → inSet a j = true
  | [], _, t, ht, _, _, _, _ => by cases ht
  | x :: xs, h, t, ht, j, o, ho, hd => by
    rcases List.mem_cons.1 ht with rfl | ht
    · have h : nand (subM (wrOf dx.ops 0 (Nat.succ t)) a) (usesIn dx a xs) = true := h
      rw [nand_eq, Bool.and_eq_true] at h
      have := wrOf_ok (i := 0) ho (u := Nat.succ t) (by rw [hd]; rfl)
      rw [Nat.zero_add] at this
      exact subM_ok h.1 this
    · have h2 : usesIn dx a xs = true := by
        cases x with
        | tmp s =>
          have h : nand (subM (wrOf dx.ops 0 (Nat.succ s)) a) (usesIn dx a xs) = true := h
          rw [nand_eq, Bool.and_eq_true] at h
          exact h.2
        | _ => exact h
      exact usesIn_ok h2 t ht j o ho hd
theorem readsM_ok {D n e : Nat} {dx : Dx} {j : Nat} (h : inSet (succM dx e n) j = true) : inSet (dx.anc j) e = true := by
  induction n with
  | zero => exact absurd h (inSet_zero j)
  | succ n ih =>
    have h : inSet (bsel (inSet (dx.anc n) e) (addTo (succM dx e n) n) (succM dx e n)) j = true := h
    cases hb : inSet (dx.anc n) e with
    | false => rw [hb] at h; exact ih h
    | true =>
      rw [hb] at h
      rcases (inSet_add _ _ _).1 h with e' | e'
      · rw [e']; exact hb
      · exact ih e'
theorem usesOk_ok {dx : Dx} {D i a : Nat} : ∀ {xs : List Operand}, usesOk dx D i a xs = true → ∀ t, Operand.tmp t ∈ xs → (∀ (j : Nat) (o : Oper), dx.ops[j]? = some o → o.dst = some t → inSet a j = true) ∨ (∀ (j : Nat) (o : Oper), dx.ops[j]? = some o → o.dst = some t → inSet (dx.anc j) i = true ∧ ¬ inSet D j = true)
  | [], _, t, ht => by cases ht
  | x :: xs, h, t, ht => by
    have h2 : usesOk dx D i a xs = true := by
      cases x with
      | tmp s =>
        have h : nand _ (usesOk dx D i a xs) = true := h
        rw [nand_eq, Bool.and_eq_true] at h
        exact h.2
      | _ => exact h
    rcases List.mem_cons.1 ht with rfl | ht
    · have h : nand (nor (subM (wrOf dx.ops 0 (Nat.succ t)) a) (nand (Nat.beq (Nat.land (wrOf dx.ops 0 (Nat.succ t)) D) 0) (subM (wrOf dx.ops 0 (Nat.succ t)) (succM dx i dx.n)))) (usesOk dx D i a xs) = true := h
      rw [nand_eq, Bool.and_eq_true, nor_eq, Bool.or_eq_true, nand_eq, Bool.and_eq_true, beq_iff] at h
      have hw : ∀ (j : Nat) (o : Oper), dx.ops[j]? = some o → o.dst = some t → inSet (wrOf dx.ops 0 (Nat.succ t)) j = true := fun j o ho hd => by
        have := wrOf_ok (i := 0) ho (u := Nat.succ t) (by rw [hd]; rfl)
        rw [Nat.zero_add] at this
        exact this
      rcases h.1 with h1 | ⟨h1, h3⟩
      · exact .inl fun j o ho hd => subM_ok h1 (hw j o ho hd)
      · refine .inr fun j o ho hd => ⟨readsM_ok (D := D) (subM_ok h3 (hw j o ho hd)), fun hD => ?_⟩
        have hq := hw j o ho hd
        have : inSet (Nat.land (wrOf dx.ops 0 (Nat.succ t)) D) j = true := by
          rw [inSet_bit] at hq hD ⊢
          have e : Nat.land (wrOf dx.ops 0 (Nat.succ t)) D = wrOf dx.ops 0 (Nat.succ t) &&& D := rfl
          rw [e, Nat.testBit_and, hq, hD]; rfl
        rw [h1] at this
        exact inSet_zero _ this
    · exact usesOk_ok h2 t ht
theorem dstOk_ok {dx : Dx} {i : Nat} {d : Option Tmp} (h : dstOk dx i d = true) : ∀ t, d = some t → ∀ (j : Nat) (o : Oper), dx.ops[j]? = some o → o.dst = some t → j = i := fun t hd j o ho hdo => by
  subst hd
  have h : Nat.beq (wrOf dx.ops 0 (Nat.succ t)) (addTo 0 i) = true := h
  rw [beq_iff] at h
  have := wrOf_ok (i := 0) ho (u := Nat.succ t) (by rw [hdo]; rfl)
  rw [h, Nat.zero_add] at this
  rcases (inSet_add _ _ _).1 this with e | e
  · exact e
  · exact absurd e (inSet_zero _)

/- values that are one -/
theorem idEqL_ok : ∀ {p q : Id}, idEqL p q = true → p = q
  | [], q, h => ((isEmp_iff q).1 h).symm
  | a :: p, [], h => by cases h
  | a :: p, b :: q, h => by
    have h : nand (beqB a b) (idEqL p q) = true := h
    rw [nand_eq, Bool.and_eq_true, beqB_eq] at h
    have h1 : a = b := by simpa using h.1
    rw [h1, idEqL_ok h.2]
theorem eqLF_ok {f : AV → AV → Bool} (hf : ∀ x y, f x y = true → x = y) : ∀ {l m : List AV}, eqLF f l m = true → l = m
  | [], m, h => ((isEmp_iff m).1 h).symm
  | x :: l, [], h => by cases h
  | x :: l, y :: m, h => by
    have h : nand (f x y) (eqLF f l m) = true := h
    rw [nand_eq, Bool.and_eq_true] at h
    rw [hf x y h.1, eqLF_ok hf h.2]
theorem ieq_ok' {a b : Int} (h : ieq a b = true) : a = b := by
  have := (ieq_iff a b).1 h
  exact this
theorem avEqF_ok : ∀ {n : Nat} {x y : AV}, avEqF n x y = true → x = y
  | 0, x, y, h => by cases h
  | n + 1, x, y, h => by
    have h : nand (Nat.beq x.g y.g) (nand (Nat.beq x.a y.a) (nand (Nat.beq x.b y.b) (nand (Nat.beq x.c y.c) (nand (Nat.beq x.d y.d) (nand (Nat.beq x.k y.k) (nand (ieq x.i y.i) (nand (idEqL x.f y.f) (eqLF (avEqF n) x.l y.l)))))))) = true := h
    simp only [nand_eq, Bool.and_eq_true, beq_iff] at h
    obtain ⟨h1, h2, h3, h4, h5, h6, h7, h8, h9⟩ := h
    have e7 := ieq_ok' h7
    have e8 := idEqL_ok h8
    have e9 := eqLF_ok (fun x y h => avEqF_ok (n := n) h) h9
    obtain ⟨g, a, b, c, d, k, i, f, l⟩ := x
    obtain ⟨g', a', b', c', d', k', i', f', l'⟩ := y
    simp only at h1 h2 h3 h4 h5 h6 e7 e8 e9
    subst h1 h2 h3 h4 h5 h6 e7 e8 e9
    rfl
end Go.Ev
namespace Go.Ev
open Go

section
variable {P : Program} {outs : Cx} {ops : Array Oper} {env0 : Env} {dx : Dx}

theorem fNR_eq (n : Nat) (k : Nat → RM) : fNR n k = k n := by cases n <;> rfl
theorem locOf_some : ∀ {loc : List Nat} {t i k : Nat}, locOf t loc i = k + 1 → i ≤ k ∧ loc[k - i]? = some (t + 1)
  | [], t, i, k, h => by cases h
  | u :: loc, t, i, k, h => by
    rw [locOf_cons] at h
    cases hb : Nat.beq u (Nat.succ t) with
    | true =>
      rw [hb] at h
      have h : Nat.succ i = k + 1 := h
      rw [beq_iff] at hb
      obtain rfl : i = k := by omega
      exact ⟨Nat.le_refl _, by simp [hb]⟩
    | false =>
      rw [hb] at h
      obtain ⟨h1, h2⟩ := locOf_some (loc := loc) h
      refine ⟨by omega, ?_⟩
      rw [show k - i = (k - (i + 1)) + 1 from by omega]
      simpa using h2
theorem locOf_none : ∀ {loc : List Nat} {t i : Nat}, locOf t loc i = 0 → (t + 1) ∉ loc
  | [], t, i, _ => by simp
  | u :: loc, t, i, h => by
    rw [locOf_cons] at h
    cases hb : Nat.beq u (Nat.succ t) with
    | true =>
      rw [hb] at h
      cases h
    | false =>
      rw [hb] at h
      have h2 := locOf_none (loc := loc) h
      intro hm
      rcases List.mem_cons.1 hm with e | e
      · rw [(beq_iff _ _).2 e.symm] at hb; cases hb
      · exact h2 e

/-- The run in one order: the slots. -/
structure BB (outs : Cx) (ops : Array Oper) (env0 : Env) (dx : Dx) (nm : List AV) (pre : List Rec) (D : Nat) (loc : List Nat) (len : Nat) (ρ : List AV) (env : Env) : Prop where
  dn : ∀ j, inSet D j = true ↔ ∃ x ∈ pre, x.i = j
  locs : loc = pre.reverse.map fun x => dstNo x.o.dst
  lens : len = pre.length
  vals : ρ = pre.reverse.map Rec.r ++ nm
  envs : ∀ t, outs.o t = true → (∃ x ∈ pre, x.o.dst = some t ∧ Tr.get und (path t) env = x.r) ∨ ((∀ x ∈ pre, x.o.dst ≠ some t) ∧ Tr.get und (path t) env = Tr.get und (path t) env0)
  op : ∀ x ∈ pre, ops[x.i]? = some x.o
  uses : ∀ x ∈ pre, x.kd = 1 → ∀ t, Operand.tmp t ∈ x.o.op.operands → ∀ (j : Nat) (o' : Oper), ops[j]? = some o' → o'.dst = some t → inSet (dx.anc x.i) j = true
  ancs : ∀ x ∈ pre, ∀ j, inSet (dx.anc x.i) j = true → inSet D j = true

variable {nm : List AV} {pre : List Rec} {D : Nat} {loc : List Nat} {len : Nat} {ρ : List AV} {env : Env}

theorem BB.tmp (b : BB outs ops env0 dx nm pre D loc len ρ env) {i t : Nat} {X : Opd} (ht : (∀ (j : Nat) (o' : Oper), ops[j]? = some o' → o'.dst = some t → inSet (dx.anc i) j = true) ∨ (∀ (j : Nat) (o' : Oper), ops[j]? = some o' → o'.dst = some t → inSet (dx.anc j) i = true ∧ ¬ inSet D j = true)) (hd : ∀ j, inSet (dx.anc i) j = true → inSet D j = true)
    (hX : cTmp outs loc t = some X) {G : Gh} {a : Act} (hS : SlotsAt P outs ops env0 dx.anc pre i G a) : VR G (X.v ρ env) (a.eval (.tmp t)) := by
  unfold cTmp at hX
  cases hl : locOf t loc 0 with
  | zero =>
    rw [hl] at hX
    have hX : bsel (outs.o t) (some (oEnv (path t))) none = some X := hX
    cases ho : outs.o t with
    | false => rw [ho] at hX; cases hX
    | true =>
      rw [ho] at hX; cases hX
      have hno : ∀ x ∈ pre, x.o.dst ≠ some t := fun x hx hdx => by
        refine locOf_none hl ?_
        rw [b.locs]
        exact List.mem_map.2 ⟨x, by simpa using hx, by rw [hdx]; rfl⟩
      have hno' : ∀ (j : Nat) (o : Oper), ops[j]? = some o → o.dst = some t → inSet (dx.anc j) i = true := fun j o hjo hdo => by
        rcases ht with ht | ht
        · obtain ⟨x, hx, hxj⟩ := (b.dn j).1 (hd j (ht j o hjo hdo))
          have := b.op x hx
          rw [hxj, hjo] at this
          cases this
          exact absurd hdo (hno x hx)
        · exact (ht j o hjo hdo).1
      rcases b.envs t ho with ⟨x, hx, h1, _⟩ | ⟨_, h2⟩
      · exact absurd h1 (hno x hx)
      · show VR G (Tr.get und (path t) env) _
        rw [h2]
        exact hS.kept t ho hno'
  | succ k =>
    rw [hl] at hX
    have hX : some (oLoc k) = some X := hX
    cases hX
    obtain ⟨_, h2⟩ := locOf_some hl
    rw [Nat.sub_zero, b.locs, List.getElem?_map] at h2
    cases hx : pre.reverse[k]? with
    | none => rw [hx] at h2; cases h2
    | some x =>
      rw [hx] at h2
      have hd' : x.o.dst = some t := by
        have h2 : some (dstNo x.o.dst) = some (t + 1) := h2
        cases hdx : x.o.dst with
        | none => rw [hdx] at h2; cases h2
        | some s =>
          rw [hdx] at h2
          have : Nat.succ s = t + 1 := Option.some.inj h2
          rw [Nat.succ.inj this]
      have hmem : x ∈ pre := by simpa using List.mem_of_getElem? hx
      show VR G (nth und k ρ) _
      have : nth und k ρ = x.r := by
        rw [nth_eq, b.vals, List.getD_eq_getElem?_getD, List.getElem?_append_left (by
          have := (List.getElem?_eq_some_iff.1 hx).1
          simpa using this), List.getElem?_map, hx]
        rfl
      rw [this]
      rcases ht with ht | ht
      · exact hS.made x hmem (ht _ _ (b.op x hmem) hd') t hd'
      · exact absurd ((b.dn x.i).2 ⟨x, hmem, rfl⟩) (ht _ _ (b.op x hmem) hd').2
theorem BB.envOK (b : BB outs ops env0 dx nm pre D loc len ρ env) {i : Nat} {xs : Array Operand} (ht : ∀ t, Operand.tmp t ∈ xs → (∀ (j : Nat) (o' : Oper), ops[j]? = some o' → o'.dst = some t → inSet (dx.anc i) j = true) ∨ (∀ (j : Nat) (o' : Oper), ops[j]? = some o' → o'.dst = some t → inSet (dx.anc j) i = true ∧ ¬ inSet D j = true)) (hd : ∀ j, inSet (dx.anc i) j = true → inSet D j = true)
    {G : Gh} {a : Act} (hS : SlotsAt P outs ops env0 dx.anc pre i G a) : EnvOK G (cOpnd P outs loc) ρ env a xs := fun x hx X hX => by
  cases x with
  | tmp t => exact b.tmp (ht t hx) hd hX hS
  | const v =>
    simp only [cOpnd, Option.map_eq_some_iff] at hX
    obtain ⟨y, hy, rfl⟩ := hX
    exact ofVal_ok hy
  | global g =>
    simp only [cOpnd] at hX
    split at hX
    · cases hX
    · rename_i y hy
      split at hX
      · cases hX
      · rename_i z hz
        cases hX
        obtain ⟨en, h1, h2⟩ := hS.glob g y z hy hz
        exact .ptr _ _ rfl ⟨g, 0, en, h1, Nat.le_refl _, by show 0 + z ≤ en; omega, rfl⟩
  | func f =>
    cases hX
    exact .func _ #[] #[] rfl rfl .nil

/-- What a guard says. -/
theorem guard_at {o o' : Oper} {g u : Nat} {want : Bool} {G : Gh} {y : AV} {a : Act} (ho : o.guard = some (g, want)) (h1 : ops[g]? = some o') (hd : o'.dst = some u) (hv : VR G y (a.eval (.tmp u))) :
    Region.wanted o (yielded ops a.tmps) = isB want y := by
  have hy : yielded ops a.tmps g = match a.tmps[u]? with
      | some (.bool b) => some b
      | _ => none := by
    unfold yielded
    rw [h1]
    simp only [Option.bind_some, hd]
    cases a.tmps[u]? with
    | none => rfl
    | some v => cases v <;> rfl
  have he : a.eval (.tmp u) = (a.tmps[u]?).getD undef := by simp [Act.eval]
  unfold Region.wanted
  rw [ho]
  simp only
  rw [hy, isB_def, nand_eq, beqB_eq]
  cases ht : a.tmps[u]? with
  | none =>
    rw [he, ht] at hv
    have hg2 : y.g ≠ 2 := fun e => by have := hv.i2 e; cases this
    rw [beq_no hg2]; rfl
  | some v =>
    rw [he, ht] at hv
    have hv : VR G y v := hv
    by_cases hg2 : y.g = 2
    · have := hv.i2 hg2
      subst this
      rw [(beq_iff _ _).2 hg2]
      cases want <;> cases Nat.beq y.a 1 <;> rfl
    · rw [beq_no hg2]
      cases v <;> first | rfl | exact absurd hv.g2 hg2

structure StepOK (ops : Array Oper) (dx : Dx) (D i : Nat) (o : Oper) : Prop where
  new : ¬ inSet D i = true
  anc : dx.anc i = ancE dx.anc o.after.toList
  sub : ∀ j, inSet (dx.anc i) j = true → inSet D j = true
  dst : ∀ t, o.dst = some t → ∀ (j : Nat) (o' : Oper), ops[j]? = some o' → o'.dst = some t → j = i
  uses : ∀ t, Operand.tmp t ∈ o.op.operands → (∀ (j : Nat) (o' : Oper), ops[j]? = some o' → o'.dst = some t → inSet (dx.anc i) j = true) ∨ (∀ (j : Nat) (o' : Oper), ops[j]? = some o' → o'.dst = some t → inSet (dx.anc j) i = true ∧ ¬ inSet D j = true)
theorem stepOk_ok (hops : dx.ops = ops.toList) {i : Nat} {o : Oper} (h : stepOk dx D i o = true) : StepOK ops dx D i o := by
  unfold stepOk at h
  simp only [nand_eq, nnot_eq, Bool.and_eq_true, beq_iff, Bool.not_eq_true'] at h
  obtain ⟨h1, h2, h3, h4, h5⟩ := h
  have hj : ∀ (j : Nat) (o' : Oper), ops[j]? = some o' → dx.ops[j]? = some o' := fun j o' hj => by rw [hops]; simpa using hj
  exact ⟨by rw [h1]; simp, h2, fun j hj => subM_ok h3 hj, fun t ht j o' ho' hd' => dstOk_ok h4 t ht j o' (hj j o' ho') hd', fun t ht => (usesOk_ok h5 t (by simpa using ht)).imp (fun h j o' ho' hd' => h j o' (hj j o' ho') hd') (fun h j o' ho' hd' => h j o' (hj j o' ho') hd')⟩

/-- One more. -/
theorem BB.ext (b : BB outs ops env0 dx nm pre D loc len ρ env) {x : Rec} (s : StepOK ops dx D x.i x.o) (hop : ops[x.i]? = some x.o) {env1 : Env} (he : ∀ p, Tr.get und p env1 = putD outs x.o.dst x.r env p) (hu : x.kd = 1 → ∀ t, Operand.tmp t ∈ x.o.op.operands → ∀ (j : Nat) (o' : Oper), ops[j]? = some o' → o'.dst = some t → inSet (dx.anc x.i) j = true) :
    BB outs ops env0 dx nm (pre ++ [x]) (addTo D x.i) (dstNo x.o.dst :: loc) (Nat.succ len) (x.r :: ρ) env1 where
  dn := fun j => by
    rw [inSet_add, b.dn j]
    constructor
    · rintro (e | ⟨y, hy, e⟩)
      · exact ⟨x, by simp, e.symm⟩
      · exact ⟨y, by simp [hy], e⟩
    · rintro ⟨y, hy, e⟩
      rcases List.mem_append.1 hy with hy | hy
      · exact .inr ⟨y, hy, e⟩
      · simp at hy; rw [hy] at e; exact .inl e.symm
  locs := by rw [b.locs]; simp
  lens := by rw [b.lens]; simp
  vals := by rw [b.vals]; simp
  envs := fun t ht => by
    have hE := he (path t)
    by_cases hd : x.o.dst = some t
    · refine .inl ⟨x, by simp, hd, ?_⟩
      rw [hE, hd]
      simp only [putD, ht, true_and, if_true]
    · have hold : Tr.get und (path t) env1 = Tr.get und (path t) env := by
        rw [hE]
        cases hdx : x.o.dst with
        | none => rfl
        | some u =>
          have : ¬ (outs.o u = true ∧ path t = path u) := fun e => hd (by rw [hdx, path_inj e.2])
          simp only [putD, this, if_false]
      rcases b.envs t ht with ⟨y, hy, h1, h2⟩ | ⟨h1, h2⟩
      · exact .inl ⟨y, by simp [hy], h1, by rw [hold]; exact h2⟩
      · refine .inr ⟨fun y hy => ?_, by rw [hold]; exact h2⟩
        rcases List.mem_append.1 hy with hy | hy
        · exact h1 y hy
        · simp at hy; rw [hy]; exact hd
  op := fun y hy => by
    rcases List.mem_append.1 hy with hy | hy
    · exact b.op y hy
    · simp at hy; rw [hy]; exact hop
  uses := fun y hy => by
    rcases List.mem_append.1 hy with hy | hy
    · exact b.uses y hy
    · simp at hy; rw [hy]; exact hu
  ancs := fun y hy j hj => by
    rw [inSet_add]
    rcases List.mem_append.1 hy with hy | hy
    · exact .inr (b.ancs y hy j hj)
    · simp at hy; rw [hy] at hj; exact .inr (s.sub j hj)

abbrev N0 : Nat → Nat → Prop := fun _ _ => False
theorem rec_of (b : BB outs ops env0 dx nm pre D loc len ρ env) {x : Rec} (s : StepOK ops dx D x.i x.o) (hop : ops[x.i]? = some x.o) (hlt : ∀ t, x.o.dst = some t → t < outs.n) {B0 : Nat → Nat → Prop} {h00 h : Hp} {n0 : Nat} (hk : KindOK P outs ops env0 dx.anc B0 h00 n0 pre h x) :
    RecOK P outs ops env0 dx.anc B0 h00 n0 pre h x where
  op := hop
  new := fun y hy e => s.new ((b.dn _).2 ⟨y, hy, e⟩)
  dst := fun t ht => ⟨hlt t ht, s.dst t ht⟩
  after := fun e he hb => (b.dn _).1 (s.sub _ (by rw [s.anc]; exact ancE_of (by simpa using he) hb))
  ancs := fun j hj => by
    rw [s.anc] at hj
    obtain ⟨e, h1, h2⟩ := ancE_in hj
    exact ⟨e, by simpa using h1, h2⟩
  kind := hk
theorem KindOK.mono {B0 B1 : Nat → Nat → Prop} (hB : ∀ i j, B0 i j → B1 i j) {anc : Nat → Nat} {h00 h : Hp} {n0 : Nat} {x : Rec} (hk : KindOK P outs ops env0 anc B0 h00 n0 pre h x) : KindOK P outs ops env0 anc B1 h00 n0 pre h x := by
  cases hk with
  | pure a b c d => exact .pure a b c d
  | skip a b c d => exact .skip a b c d
  | look a b c d e => exact .look a b c (fun y hy hk => (d y hy hk).imp id (hB _ _)) e
  | alloc a b c d e f g i => exact .alloc a b c d e f g i
  | act a b c d e => exact .act a b (fun y hy hk => (c y hy hk).imp id (hB _ _)) d e
theorem RecOK.mono {B0 B1 : Nat → Nat → Prop} (hB : ∀ i j, B0 i j → B1 i j) {anc : Nat → Nat} {h00 h : Hp} {n0 : Nat} {x : Rec} (hr : RecOK P outs ops env0 anc B0 h00 n0 pre h x) : RecOK P outs ops env0 anc B1 h00 n0 pre h x :=
  ⟨hr.op, hr.new, hr.dst, hr.after, hr.ancs, hr.kind.mono hB⟩
end
end Go.Ev
namespace Go.Ev
open Go

section
variable {P : Program} {outs : Cx} {ops : Array Oper} {env0 : Env} {dx : Dx}
variable {nm : List AV} {pre : List Rec} {D EA : Nat} {loc : List Nat} {len c : Nat} {rd : List Rd} {ρ : List AV} {env : Env} {h00 : Hp} {n0 : Nat} {call : CallT}

/-- The run in one order: what was made, what acted, what looked. -/
structure BK (P : Program) (nm : List AV) (pre : List Rec) (EA c : Nat) (rd : List Rd) : Prop where
  acts : ∀ x ∈ pre, 2 ≤ x.kd → inSet EA x.i = true
  names : ∀ x ∈ pre, x.kd = 2 → ∃ k v, k < c ∧ nm[k]? = some v ∧ v.f = x.f
  reads : ∀ x ∈ pre, x.kd = 1 → ∃ q ∈ rd, q.i = x.i ∧ q.o = x.o ∧ pre[q.p]? = some x
  kinds : ∀ q ∈ rd, kindP P q.o.op = 1

/-- The names that are kept. -/
def NmOK (nm : List AV) (h00 : Hp) (n0 : Nat) : Prop := ∀ (k : Nat) (v : AV), nm[k]? = some v → (h00 v.f).g = 0 ∧ n0 ≤ idv v.f ∧ idv v.f < h00.nx ∧ ∀ (k' : Nat) (v' : AV), nm[k']? = some v' → k' ≠ k → v'.f ≠ v.f

theorem BK.old (b : BK P nm pre EA c rd) {x : Rec} (h : x.kd = 0) : BK P nm (pre ++ [x]) EA c rd := by
  refine ⟨fun y hy hk => ?_, fun y hy hk => ?_, fun y hy hk => ?_, b.kinds⟩
  · rcases List.mem_append.1 hy with hy | hy
    · exact b.acts y hy hk
    · simp at hy; rw [hy] at hk; omega
  · rcases List.mem_append.1 hy with hy | hy
    · exact b.names y hy hk
    · simp at hy; rw [hy] at hk; omega
  · rcases List.mem_append.1 hy with hy | hy
    · obtain ⟨q, h1, h2, h3, h4⟩ := b.reads y hy hk
      exact ⟨q, h1, h2, h3, by rw [List.getElem?_append_left (List.getElem?_eq_some_iff.1 h4).1]; exact h4⟩
    · simp at hy; rw [hy] at hk; omega
theorem BK.look (b : BK P nm pre EA c rd) {x : Rec} (h : x.kd = 1) (hk1 : kindP P x.o.op = 1) (hl : len = pre.length) : BK P nm (pre ++ [x]) EA c (⟨x.i, x.o, len⟩ :: rd) := by
  refine ⟨fun y hy hk => ?_, fun y hy hk => ?_, fun y hy hk => ?_, fun q hq => ?_⟩
  · rcases List.mem_append.1 hy with hy | hy
    · exact b.acts y hy hk
    · simp at hy; rw [hy] at hk; omega
  · rcases List.mem_append.1 hy with hy | hy
    · exact b.names y hy hk
    · simp at hy; rw [hy] at hk; omega
  · rcases List.mem_append.1 hy with hy | hy
    · obtain ⟨q, h1, h2, h3, h4⟩ := b.reads y hy hk
      exact ⟨q, by simp [h1], h2, h3, by rw [List.getElem?_append_left (List.getElem?_eq_some_iff.1 h4).1]; exact h4⟩
    · simp at hy; rw [hy]
      exact ⟨⟨x.i, x.o, len⟩, by simp, rfl, rfl, by simp [hl]⟩
  · rcases List.mem_cons.1 hq with rfl | hq
    · exact hk1
    · exact b.kinds q hq
theorem BK.alloc (b : BK P nm pre EA c rd) {x : Rec} (h : x.kd = 2) {v : AV} (hn : nm[c]? = some v) (hv : v.f = x.f) : BK P nm (pre ++ [x]) (addTo EA x.i) (Nat.succ c) rd := by
  refine ⟨fun y hy hk => ?_, fun y hy hk => ?_, fun y hy hk => ?_, b.kinds⟩
  · rw [inSet_add]
    rcases List.mem_append.1 hy with hy | hy
    · exact .inr (b.acts y hy hk)
    · simp at hy; rw [hy]; exact .inl rfl
  · rcases List.mem_append.1 hy with hy | hy
    · obtain ⟨k, v, h1, h2⟩ := b.names y hy hk
      exact ⟨k, v, by omega, h2⟩
    · simp at hy; rw [hy]; exact ⟨c, v, by omega, hn, hv⟩
  · rcases List.mem_append.1 hy with hy | hy
    · obtain ⟨q, h1, h2, h3, h4⟩ := b.reads y hy hk
      exact ⟨q, h1, h2, h3, by rw [List.getElem?_append_left (List.getElem?_eq_some_iff.1 h4).1]; exact h4⟩
    · simp at hy; rw [hy] at hk; omega
theorem BK.act (b : BK P nm pre EA c rd) {x : Rec} (h : x.kd = 3) : BK P nm (pre ++ [x]) (addTo EA x.i) c rd := by
  refine ⟨fun y hy hk => ?_, fun y hy hk => ?_, fun y hy hk => ?_, b.kinds⟩
  · rw [inSet_add]
    rcases List.mem_append.1 hy with hy | hy
    · exact .inr (b.acts y hy hk)
    · simp at hy; rw [hy]; exact .inl rfl
  · rcases List.mem_append.1 hy with hy | hy
    · exact b.names y hy hk
    · simp at hy; rw [hy] at hk; omega
  · rcases List.mem_append.1 hy with hy | hy
    · obtain ⟨q, h1, h2, h3, h4⟩ := b.reads y hy hk
      exact ⟨q, h1, h2, h3, by rw [List.getElem?_append_left (List.getElem?_eq_some_iff.1 h4).1]; exact h4⟩
    · simp at hy; rw [hy] at hk; omega

/-- Reads that are done again. -/
theorem again_ok {a : Nat} {rest : RM} {st : St} {k : Env → St → Ans} {A : Ans} (hA : A ≠ .bad) : ∀ {rd : List Rd}, (∀ q ∈ rd, kindP P q.o.op = 1) → (again P outs loc len a rest rd).v call ρ env st k = A →
    rest.v call ρ env st k = A ∧ ∀ q ∈ rd, inSet a q.i = true ∨ ∃ r, r = nth und (Nat.sub (Nat.pred len) q.p) ρ ∧ Looks P q.o (cOpnd P outs loc) ρ env st r
  | [], _, h => ⟨h, fun q hq => by cases hq⟩
  | q :: rd, hk, h => by
    have h : (bsel (inSet a q.i) (again P outs loc len a rest rd) (hAgain (cop P (cOpnd P outs loc) q.o.op) (Nat.sub (Nat.pred len) q.p) (again P outs loc len a rest rd))).v call ρ env st k = A := h
    cases hb : inSet a q.i with
    | true =>
      rw [hb] at h
      obtain ⟨h1, h2⟩ := again_ok hA (fun q hq => hk q (by simp [hq])) h
      refine ⟨h1, fun q' hq' => ?_⟩
      rcases List.mem_cons.1 hq' with rfl | hq'
      · exact .inl hb
      · exact h2 q' hq'
    | false =>
      rw [hb] at h
      obtain ⟨r, h3, h4⟩ := looksP_ok q.o (cOpnd P outs loc) (hk q (by simp)) call ρ env st _ A h hA
      obtain ⟨e, h5⟩ := p_when h3 hA
      obtain ⟨h1, h2⟩ := again_ok hA (fun q hq => hk q (by simp [hq])) h5
      refine ⟨h1, fun q' hq' => ?_⟩
      rcases List.mem_cons.1 hq' with rfl | hq'
      · exact .inr ⟨r, avEqF_ok e, h4⟩
      · exact h2 q' hq'

/-- The slots at the end. -/
def EnvAt (outs : Cx) (env0 : Env) (L : List Rec) (env : Env) : Prop := ∀ t, outs.o t = true → (∃ x ∈ L, x.o.dst = some t ∧ Tr.get und (path t) env = x.r) ∨ ((∀ x ∈ L, x.o.dst ≠ some t) ∧ Tr.get und (path t) env = Tr.get und (path t) env0)
def Cov (ops : Array Oper) (L : List Rec) : Prop := ∀ i, i < ops.size → ∃ x ∈ L, x.i = i
abbrev Bp (a b : Nat) : Nat → Nat → Prop := fun i j => i = a ∧ j = b

/-- What a run in one order leaves behind. -/
inductive Way (P : Program) (outs : Cx) (ops : Array Oper) (env0 : Env) (anc : Nat → Nat) (h00 : Hp) (n0 : Nat) (pre : List Rec) (h : Hp) (env' : Env) (h' : Hp) : Prop where
  | one (rest : List Rec) (hl : Log P outs ops env0 anc N0 h00 n0 pre h rest h') (hn : (pre ++ rest).length ≤ ops.size) (hc : Cov ops (pre ++ rest)) (he : EnvAt outs env0 (pre ++ rest) env')
  | two (M : List Rec) (x y x' y' : Rec) (hne : x.i ≠ y.i) (hx : x'.i = x.i) (hy : y'.i = y.i) (hkx : x.kd = 3) (hky : y.kd = 3) (hkx' : x'.kd = 3) (hky' : y'.kd = 3) (hdx : x.o.dst = none) (hdy : y.o.dst = none) (hdx' : x'.o.dst = none) (hdy' : y'.o.dst = none)
      (h1 : Log P outs ops env0 anc (Bp y.i x.i) h00 n0 pre h (M ++ [x, y]) h') (h2 : Log P outs ops env0 anc (Bp x.i y.i) h00 n0 pre h (M ++ [y', x']) h') (hn : (pre ++ M).length + 2 ≤ ops.size) (hc : Cov ops (pre ++ (M ++ [x, y]))) (hc' : Cov ops (pre ++ (M ++ [y', x'])))
      (he : EnvAt outs env0 (pre ++ (M ++ [x, y])) env') (he' : EnvAt outs env0 (pre ++ (M ++ [y', x'])) env')
theorem Way.cons {anc : Nat → Nat} {x : Rec} {h h' : Hp} {env' : Env} (hr : RecOK P outs ops env0 anc N0 h00 n0 pre h x) (w : Way P outs ops env0 anc h00 n0 (pre ++ [x]) x.h1 env' h') : Way P outs ops env0 anc h00 n0 pre h env' h' := by
  have up : ∀ B0, RecOK P outs ops env0 anc B0 h00 n0 pre h x := fun B0 => hr.mono fun _ _ h => h.elim
  cases w with
  | one rest hl hn hc he => exact .one (x :: rest) (.cons hr hl) (by simpa using hn) (by simpa using hc) (by simpa using he)
  | two M y z y' z' hne hx hy hkx hky hkx' hky' hdx hdy hdx' hdy' h1 h2 hn hc hc' he he' =>
    exact .two (x :: M) y z y' z' hne hx hy hkx hky hkx' hky' hdx hdy hdx' hdy' (.cons (up _) h1) (.cons (up _) h2) (by simp at hn ⊢; omega) (by simpa using hc) (by simpa using hc') (by simpa using he) (by simpa using he')

theorem allSet_cov (b : ∀ j, inSet D j = true ↔ ∃ x ∈ pre, x.i = j) (h : allSet D ops.size = true) : Cov ops pre := fun i hi => (b i).1 (allSet_ok h hi)

theorem over0_eq : ∀ (vs l : List AV) (k : List AV → Ans), vs.length ≤ l.length → over0 vs l k = k (vs ++ l.drop vs.length)
  | [], l, k, _ => by simp [over0]
  | v :: vs, [], k, h => by simp at h
  | v :: vs, c :: l, k, h => by
    have := over0_eq vs l (fun xs => k (v :: xs)) (by simpa using h)
    exact this
theorem over_eq : ∀ (o : Nat) (vs l : List AV) (k : List AV → Ans), o + vs.length ≤ l.length → overK o vs l k = k (l.take o ++ (vs ++ l.drop (o + vs.length)))
  | 0, vs, l, k, h => by
    have := over0_eq vs l k (by omega)
    rw [Nat.zero_add, List.take_zero, List.nil_append]
    exact this
  | o + 1, vs, [], k, h => by simp at h
  | o + 1, vs, c :: l, k, h => by
    have := over_eq o vs l (fun xs => k (c :: xs)) (by simp at h; omega)
    rw [show o + 1 + vs.length = (o + vs.length) + 1 from by omega]
    exact this

theorem whenK_true (r : Ans) : whenK true r = r := rfl
/-- A store's run: one family is written, as it is there. -/
theorem store_run {o : Oper} {c : Operand → Option Opd} {a : Operand} {X : Opd} (ho : storeP o.op = some a) (hX : c a = some X) {st : St} {k : KV} {A : Ans} (h : (cop P c o.op).v call ρ env st k = A) (hA : A ≠ .bad) :
    ∃ ob, k und (st.set (X.v ρ env).f ob) = A ∧ ∀ (st' : St) (k' : KV), st'.h (X.v ρ env).f = st.h (X.v ρ env).f → (cop P c o.op).v call ρ env st' k' = k' und (st'.set (X.v ρ env).f ob) := by
  cases hop : o.op with
  | store t a' x =>
    rw [hop] at ho h
    have : a' = a := Option.some.inj ho
    subst this
    have h : (dStore t a' x P c).v call ρ env st k = A := h
    show ∃ ob, _ ∧ ∀ (st' : St) (k' : KV), _ → (dStore t a' x P c).v call ρ env st' k' = _
    unfold dStore at h ⊢
    rw [hX] at h ⊢
    simp only at h ⊢
    cases hx : c x with
    | none => rw [hx] at h; exact absurd h.symm hA
    | some Y =>
      rw [hx] at h
      simp only at h ⊢
      unfold cStore at h ⊢
      cases hs : sizeOf? P t with
      | none => rw [hs] at h; exact absurd h.symm hA
      | some n =>
        rw [hs] at h
        simp only [hStore] at h ⊢
        obtain ⟨g1, h⟩ := p_ptr h hA
        rw [cellsK_eq] at h
        obtain ⟨e, h⟩ := p_when h hA
        have e0 := e
        rw [nand_eq, nand_eq, Bool.and_eq_true, Bool.and_eq_true, ble_iff, ble_iff, beq_iff, lenL_eq] at e
        have hraw := h
        obtain ⟨f1, f2, f3, f4, f5, h⟩ := p_write h hA
        refine ⟨_, h, fun st' k' hst => ?_⟩
        unfold AV.ptrK
        rw [on_eq, g1]
        show (whenK true _) = _
        show ((Y.v ρ env).cellsK fun cs => _) = _
        rw [cellsK_eq, e0]
        show writeK st' _ _ _ _ _ = _
        -- the same write elsewhere
        have hw := hraw
        unfold writeK famK at hw ⊢
        rw [son_eq, oon_eq] at hw ⊢
        have hst' : Tr.get oNone (X.v ρ env).f st'.heap = Tr.get oNone (X.v ρ env).f st.heap := hst
        rw [hst']
        obtain ⟨w1, hw⟩ := p_when hw hA
        obtain ⟨w2, hw⟩ := p_when hw hA
        rw [w1, whenK_true]
        simp only []
        rw [w2, whenK_true]
        obtain ⟨w3, _⟩ := p_over hw hA
        rw [over_eq _ _ _ _ w3, putK_eq]
        rfl
  | _ => rw [hop] at ho; cases ho
end
end Go.Ev
namespace Go.Ev
open Go

section
variable {P : Program} {outs : Cx} {ops : Array Oper} {env0 : Env} {dx : Dx}
variable {nm : List AV} {pre : List Rec} {D EA : Nat} {loc : List Nat} {len c : Nat} {rd : List Rd} {ρ : List AV} {env : Env} {h00 : Hp} {n0 : Nat} {call : CallT}

theorem BB.at (b : BB outs ops env0 dx nm pre D loc len ρ env) {p : Nat} {y : Rec} (h : pre[p]? = some y) : nth und (Nat.sub (Nat.pred len) p) ρ = y.r := by
  have hlt : p < pre.length := (List.getElem?_eq_some_iff.1 h).1
  have h1 : Nat.sub (Nat.pred len) p = pre.length - 1 - p := by rw [b.lens]; rfl
  rw [h1, nth_eq, b.vals, List.getD_eq_getElem?_getD, List.getElem?_append_left (by simp; omega), List.getElem?_map, List.getElem?_reverse (by omega)]
  rw [show pre.length - 1 - (pre.length - 1 - p) = p from by omega, h]; rfl
theorem BB.name (b : BB outs ops env0 dx nm pre D loc len ρ env) {c : Nat} : nth und (Nat.add len c) ρ = (nm[c]?).getD und := by
  have h1 : Nat.add len c = pre.length + c := by rw [b.lens]; rfl
  rw [h1, nth_eq, b.vals, List.getD_eq_getElem?_getD, List.getElem?_append_right (by simp)]
  simp

theorem want_none {pre : List Rec} {anc : Nat → Nat} {x : Rec} (h : x.o.guard = none) : WantAt P outs ops env0 anc true pre x := fun G a _ => by simp [Region.wanted, h]

theorem kind_ok (hc : CallOK P call) (hops : dx.ops = ops.toList) (hnm : NmOK nm h00 n0) {next : DNext}
    (ih : ∀ (D EA : Nat) (loc : List Nat) (len c : Nat) (rd : List Rd) (pre' : List Rec) (ρ : List AV) (env : Env) (st : St) (k : Env → St → Ans) (A : Ans), pre'.length = pre.length + 1 → BB outs ops env0 dx nm pre' D loc len ρ env → BK P nm pre' EA c rd → (next D EA loc len c rd).v call ρ env st k = A → A ≠ .bad →
      ∃ env' st', k env' st' = A ∧ Way P outs ops env0 dx.anc h00 n0 pre' st.h env' st'.h)
    (b : BB outs ops env0 dx nm pre D loc len ρ env) (bk : BK P nm pre EA c rd) {i : Nat} {o : Oper} (s : StepOK ops dx D i o) (hop : ops[i]? = some o) (hw : ∀ x : Rec, x.i = i → x.o = o → WantAt P outs ops env0 dx.anc true pre x)
    {st : St} {k : Env → St → Ans} {A : Ans} (h : (dKind P outs dx next D EA loc len c rd i o (kindP P o.op)).v call ρ env st k = A) (hA : A ≠ .bad) :
    ∃ env' st', k env' st' = A ∧ Way P outs ops env0 dx.anc h00 n0 pre st.h env' st'.h := by
  match hk : kindP P o.op with
  | 0 =>
    rw [hk] at h
    have h : (hOp outs o.dst (cop P (cOpnd P outs loc) o.op) (fNR (addTo D i) fun D' => next D' EA (dstNo o.dst :: loc) (Nat.succ len) c rd)).v call ρ env st k = A := h
    obtain ⟨hd, r, st1, env1, h1, h2, h3⟩ := hOp_ok (D := fun r st1 => st1 = st ∧ Pure P o (cOpnd P outs loc) ρ env r) (fun kk hk' => by
      obtain ⟨r, a, b⟩ := pureP_ok o _ hk call ρ env st kk A hk' hA
      exact ⟨r, st, a, rfl, b⟩) h hA
    obtain ⟨rfl, h2⟩ := h2
    rw [fNR_eq] at h1
    let x : Rec := ⟨i, o, 0, r, st1.h, [], oNone⟩
    have hr : RecOK P outs ops env0 dx.anc N0 h00 n0 pre st1.h x := rec_of b (x := x) s hop hd (.pure rfl rfl (fun G a hS => h2 G a (b.envOK s.uses s.sub hS)) (hw x rfl rfl))
    obtain ⟨env', st', e1, w⟩ := ih _ _ _ _ _ _ (pre ++ [x]) _ _ _ _ _ (by simp) (b.ext (x := x) s hop h3 (fun h => by cases h)) (bk.old rfl) h1 hA
    exact ⟨env', st', e1, Way.cons hr w⟩
  | 1 =>
    rw [hk] at h
    have h : (bsel (nand (subM EA (dx.anc i)) (usesIn dx (dx.anc i) o.op.operands.toList)) (hOp outs o.dst (cop P (cOpnd P outs loc) o.op) (fNR (addTo D i) fun D' => next D' EA (dstNo o.dst :: loc) (Nat.succ len) c (⟨i, o, len⟩ :: rd))) rBad).v call ρ env st k = A := h
    cases hs : nand (subM EA (dx.anc i)) (usesIn dx (dx.anc i) o.op.operands.toList) with
    | false => rw [hs] at h; exact absurd h.symm hA
    | true =>
      rw [hs] at h
      rw [nand_eq, Bool.and_eq_true] at hs
      obtain ⟨hd, r, st1, env1, h1, h2, h3⟩ := hOp_ok (D := fun r st1 => st1 = st ∧ Looks P o (cOpnd P outs loc) ρ env st r) (fun kk hk' => by
        obtain ⟨r, a, b⟩ := looksP_ok o _ hk call ρ env st kk A hk' hA
        exact ⟨r, st, a, rfl, b⟩) h hA
      obtain ⟨rfl, h2⟩ := h2
      rw [fNR_eq] at h1
      let x : Rec := ⟨i, o, 1, r, st1.h, [], oNone⟩
      have hr : RecOK P outs ops env0 dx.anc N0 h00 n0 pre st1.h x := rec_of b (x := x) s hop hd (.look rfl rfl (fun G w a hS hR => h2 G w a (b.envOK s.uses s.sub hS) hR) (fun y hy hky => .inl (subM_ok hs.1 (bk.acts y hy hky))) (hw x rfl rfl))
      obtain ⟨env', st', e1, w⟩ := ih _ _ _ _ _ _ (pre ++ [x]) _ _ _ _ _ (by simp) (b.ext (x := x) s hop h3 (fun _ t ht j o' hj hd => usesIn_ok hs.2 t (by simpa using ht) j o' (by rw [hops]; simpa using hj) hd)) (bk.look (x := x) rfl hk b.lens) h1 hA
      exact ⟨env', st', e1, Way.cons hr w⟩
  | 2 =>
    rw [hk] at h
    have h : (hOp outs o.dst (hAllocAt (Nat.add len c) (cop P (cOpnd P outs loc) o.op)) (fNR (addTo D i) fun D' => next D' (addTo EA i) (dstNo o.dst :: loc) (Nat.succ len) (Nat.succ c) rd)).v call ρ env st k = A := h
    obtain ⟨hd, r, st1, env1, h1, h2, h3⟩ := hOp_ok (D := fun r st1 => ∃ v mk ob, nm[c]? = some v ∧ st1 = st.set v.f ob ∧ r = mk v.f ∧ Allocs P o (cOpnd P outs loc) ρ env mk ob) (fun kk hk' => by
      have hk' : ((nth und (Nat.add len c) ρ).on fun g _ _ _ _ _ _ f _ => whenK (Nat.beq g 10) (st.on fun h n => (cop P (cOpnd P outs loc) o.op).v call ρ env ⟨h, f⟩ fun v st' => st'.on fun h' _ => kk v ⟨h', n⟩)) = A := hk'
      rw [on_eq, b.name] at hk'
      obtain ⟨e, hk'⟩ := p_when hk' hA
      rw [son_eq] at hk'
      cases hv : nm[c]? with
      | none => rw [hv] at e; cases e
      | some v =>
        rw [hv] at hk'
        obtain ⟨_, mk, ob, a1, a2⟩ := allocsP_ok o _ hk call ρ env _ _ A hk' hA
        rw [son_eq] at a1
        exact ⟨mk v.f, st.set v.f ob, a1, v, mk, ob, rfl, rfl, rfl, a2⟩) h hA
    obtain ⟨v, mk, ob, hv, rfl, rfl, h2⟩ := h2
    rw [fNR_eq] at h1
    obtain ⟨z1, z2, z3, z4⟩ := hnm c v hv
    let x : Rec := ⟨i, o, 2, mk v.f, (st.set v.f ob).h, v.f, ob⟩
    have hr : RecOK P outs ops env0 dx.anc N0 h00 n0 pre st.h x := rec_of b (x := x) s hop hd (.alloc rfl (St.h_set' _ _ _) (fun G a hS => by
        obtain ⟨blk, val, en, sz, q1, q2, q3⟩ := h2 G a (b.envOK s.uses s.sub hS)
        exact ⟨blk, val, en, sz, q1, q2, fun G' cc hle hb hs => q3 G' v.f cc hle hb hs⟩) (fun y hy hky => by
        obtain ⟨k', v', k1, k2, k3⟩ := bk.names y hy hky
        rw [← k3]
        exact z4 k' v' k2 (by omega)) z1 z2 z3 (hw x rfl rfl))
    obtain ⟨env', st', e1, w⟩ := ih _ _ _ _ _ _ (pre ++ [x]) _ _ _ _ _ (by simp) (b.ext (x := x) s hop h3 (fun h => by cases h)) (bk.alloc (x := x) rfl hv rfl) h1 hA
    exact ⟨env', st', e1, Way.cons hr w⟩
  | k' + 3 =>
    rw [hk] at h
    have h : (bsel (subM EA (dx.anc i)) (hOp outs o.dst (cop P (cOpnd P outs loc) o.op) (again P outs (dstNo o.dst :: loc) (Nat.succ len) (dx.anc i) (fNR (addTo D i) fun D' => next D' (addTo EA i) (dstNo o.dst :: loc) (Nat.succ len) c rd) rd)) rBad).v call ρ env st k = A := h
    cases hs : subM EA (dx.anc i) with
    | false => rw [hs] at h; exact absurd h.symm hA
    | true =>
      rw [hs] at h
      obtain ⟨hd, r, st1, env1, h1, h2, h3⟩ := hOp_ok (D := fun r st1 => Does P o (cOpnd P outs loc) ρ env st r st1) (fun kk hk' => cop_ok hc o (cOpnd P outs loc) ρ env st kk A hk' hA) h hA
      obtain ⟨h1, hag⟩ := again_ok hA bk.kinds h1
      rw [fNR_eq] at h1
      let x : Rec := ⟨i, o, 3, r, st1.h, [], oNone⟩
      have b' := b.ext (x := x) s hop h3 (fun h => by cases h)
      have hr : RecOK P outs ops env0 dx.anc N0 h00 n0 pre st.h x := rec_of b (x := x) s hop hd (.act rfl (fun G w a hS hR next Q hn => h2 G w a (b.envOK s.uses s.sub hS) hR hS.glob next Q hn) (fun y hy hky => .inl (subM_ok hs (bk.acts y hy hky))) (fun y hy hky => by
        obtain ⟨q, hq, q1, q2, q3⟩ := bk.reads y hy hky
        rcases hag q hq with e | ⟨r', e1, e2⟩
        · exact .inl (by rw [← q1]; exact e)
        · refine .inr fun G w a hS hR => ?_
          have hy' : y ∈ pre ++ [x] := by simp [hy]
          have hq3 : (pre ++ [x])[q.p]? = some y := by rw [List.getElem?_append_left (List.getElem?_eq_some_iff.1 q3).1]; exact q3
          have he : r' = y.r := by rw [e1]; exact b'.at hq3
          rw [he, q2] at e2
          refine e2 G w a (b'.envOK (i := y.i) (fun t ht => .inl (b'.uses y hy' hky t ht)) (b'.ancs y hy') ⟨fun z hz hzi t ht => ?_, hS.kept, hS.glob⟩) hR
          rcases List.mem_append.1 hz with hz | hz
          · exact hS.made z hz hzi t ht
          · simp at hz
            rw [hz] at hzi
            exact absurd (b.ancs y hy _ hzi) s.new) (hw x rfl rfl))
      obtain ⟨env', st', e1, w⟩ := ih _ _ _ _ _ _ (pre ++ [x]) _ _ _ _ _ (by simp) b' (bk.act (x := x) rfl) h1 hA
      exact ⟨env', st', e1, Way.cons hr w⟩

theorem skip_ok {next : DNext}
    (ih : ∀ (D EA : Nat) (loc : List Nat) (len c : Nat) (rd : List Rd) (pre' : List Rec) (ρ : List AV) (env : Env) (st : St) (k : Env → St → Ans) (A : Ans), pre'.length = pre.length + 1 → BB outs ops env0 dx nm pre' D loc len ρ env → BK P nm pre' EA c rd → (next D EA loc len c rd).v call ρ env st k = A → A ≠ .bad →
      ∃ env' st', k env' st' = A ∧ Way P outs ops env0 dx.anc h00 n0 pre' st.h env' st'.h)
    (b : BB outs ops env0 dx nm pre D loc len ρ env) (bk : BK P nm pre EA c rd) {i : Nat} {o : Oper} (s : StepOK ops dx D i o) (hop : ops[i]? = some o) (hw : ∀ x : Rec, x.i = i → x.o = o → WantAt P outs ops env0 dx.anc false pre x)
    {st : St} {k : Env → St → Ans} {A : Ans} (h : (dSkip outs next D EA loc len c rd i o).v call ρ env st k = A) (hA : A ≠ .bad) :
    ∃ env' st', k env' st' = A ∧ Way P outs ops env0 dx.anc h00 n0 pre st.h env' st'.h := by
  have h : (hOp outs o.dst hMoveU (fNR (addTo D i) fun D' => next D' EA (dstNo o.dst :: loc) (Nat.succ len) c rd)).v call ρ env st k = A := h
  obtain ⟨hd, r, st1, env1, h1, h2, h3⟩ := hOp_ok (D := fun r st1 => r = und ∧ st1 = st) (fun kk hk => ⟨und, st, hk, rfl, rfl⟩) h hA
  obtain ⟨rfl, rfl⟩ := h2
  rw [fNR_eq] at h1
  let x : Rec := ⟨i, o, 0, und, st1.h, [], oNone⟩
  have hr : RecOK P outs ops env0 dx.anc N0 h00 n0 pre st1.h x := rec_of b (x := x) s hop hd (.skip rfl rfl rfl (hw x rfl rfl))
  obtain ⟨env', st', e1, w⟩ := ih _ _ _ _ _ _ (pre ++ [x]) _ _ _ _ _ (by simp) (b.ext (x := x) s hop h3 (fun h => by cases h)) (bk.old rfl) h1 hA
  exact ⟨env', st', e1, Way.cons hr w⟩

theorem allIn_ok {a : Nat} : ∀ {rd : List Rd}, allIn a rd = true → ∀ q ∈ rd, inSet a q.i = true
  | [], _, q, hq => by cases hq
  | x :: rd, h, q, hq => by
    have h : nand (inSet a x.i) (allIn a rd) = true := h
    rw [nand_eq, Bool.and_eq_true] at h
    rcases List.mem_cons.1 hq with rfl | hq
    · exact h.1
    · exact allIn_ok h.2 q hq
theorem idEqL_refl : ∀ (p : Id), idEqL p p = true
  | [] => rfl
  | a :: p => by
    show nand (beqB a a) (idEqL p p) = true
    rw [idEqL_refl p, beqB_eq]; cases a <;> rfl
theorem isNone'_ok {α : Type} {x : Option α} (h : isNone' x = true) : x = none := by cases x <;> first | rfl | cases h
theorem up_comm (h : Hp) {f g : Id} (o p : Obj) (hne : f ≠ g) : Hp.up (Hp.up h f o) g p = Hp.up (Hp.up h g p) f o := by
  unfold Hp.up
  congr 1
  funext x
  by_cases h1 : x = g
  · subst h1
    simp [Ne.symm hne]
  · simp [h1]

/-- What a run says. -/
theorem does_of_run (hc : CallOK P call) {o : Oper} {cc : Operand → Option Opd} {st st1 : St} (h : ∀ k : KV, (cop P cc o.op).v call ρ env st k = k und st1) : Does P o cc ρ env st und st1 := by
  obtain ⟨r, st', h1, h2⟩ := cop_ok hc o cc ρ env st (fun r s => .fin r s) _ (h _) (by simp)
  cases h1
  exact h2

theorem pair_ok (hc : CallOK P call) (hops : dx.ops = ops.toList) (hn : dx.n = ops.size)
    (b : BB outs ops env0 dx nm pre D loc len ρ env) (bk : BK P nm pre EA c rd) {i j : Nat} {o : Oper} (hop : ops[i]? = some o)
    {st : St} {k : Env → St → Ans} {A : Ans} (h : (dPair P outs dx D EA loc rd i o j).v call ρ env st k = A) (hA : A ≠ .bad) :
    ∃ env' st', k env' st' = A ∧ Way P outs ops env0 dx.anc h00 n0 pre st.h env' st'.h := by
  unfold dPair at h
  split at h
  · exact absurd h.symm hA
  · rename_i o' ho'
    rw [opAt_eq, hops] at ho'
    have hop' : ops[j]? = some o' := by simpa using ho'
    generalize hcond : nand (pairOk dx D EA rd i o) _ = cond at h
    cases cond with
    | false => exact absurd h.symm hA
    | true =>
      unfold pairOk at hcond
      simp only [nand_eq, nnot_eq, Bool.and_eq_true, beq_iff, Bool.not_eq_true', lenL_eq] at hcond
      obtain ⟨⟨a1, a2, a3, a4, a5⟩, ⟨b1, b2, b3, b4, b5⟩, c1, c2, c3⟩ := hcond
      have hij : i ≠ j := fun e => by rw [(beq_iff _ _).2 e] at c2; cases c2
      have si := stepOk_ok hops a1
      have sj := stepOk_ok hops b1
      have di := isNone'_ok a4
      have dj := isNone'_ok b4
      have gi := isNone'_ok a5
      have gj := isNone'_ok b5
      rw [bsel_true] at h
      split at h
      · rename_i a ha
        split at h
        · rename_i a' ha'
          split at h
          · rename_i X hX
            split at h
            · rename_i X' hX'
              have h : ((X.v ρ env).ptrK fun f _ _ _ => (X'.v ρ env).ptrK fun f' _ _ _ => whenK (nnot (idEqL f f')) ((cop P (cOpnd P outs loc) o.op).v call ρ env st fun _ st1 => (cop P (cOpnd P outs loc) o'.op).v call ρ env st1 fun _ st2 => k env st2)) = A := h
              obtain ⟨_, h⟩ := p_ptr h hA
              obtain ⟨_, h⟩ := p_ptr h hA
              obtain ⟨e, h⟩ := p_when h hA
              have hne : (X.v ρ env).f ≠ (X'.v ρ env).f := fun e' => by rw [e', idEqL_refl] at e; cases e
              obtain ⟨obA, h1, r1⟩ := store_run ha hX h hA
              obtain ⟨obB, h2, r2⟩ := store_run ha' hX' h1 hA
              generalize hfA : (X.v ρ env).f = fA at h1 h2 r1 r2 hne
              generalize hfB : (X'.v ρ env).f = fB at h1 h2 r1 r2 hne
              have eB : st.h fB = (st.set fA obA).h fB := by rw [St.h_set, if_neg (Ne.symm hne)]
              have eA : (st.set fB obB).h fA = st.h fA := by rw [St.h_set, if_neg hne]
              -- what each does, in both orders
              have dA := does_of_run (ρ := ρ) (env := env) hc (fun k => r1 st k rfl)
              have dB := does_of_run (ρ := ρ) (env := env) hc (fun k => r2 (st.set fA obA) k rfl)
              have dB' := does_of_run (ρ := ρ) (env := env) hc (fun k => r2 st k eB)
              have dA' := does_of_run (ρ := ρ) (env := env) hc (fun k => r1 (st.set fB obB) k eA)
              have hend : ((st.set fB obB).set fA obA).h = ((st.set fA obA).set fB obB).h := by
                rw [St.h_set', St.h_set', St.h_set', St.h_set']
                exact up_comm _ _ _ (Ne.symm hne)
              let x : Rec := ⟨i, o, 3, und, (st.set fA obA).h, [], oNone⟩
              let y : Rec := ⟨j, o', 3, und, ((st.set fA obA).set fB obB).h, [], oNone⟩
              let y' : Rec := ⟨j, o', 3, und, (st.set fB obB).h, [], oNone⟩
              let x' : Rec := ⟨i, o, 3, und, ((st.set fB obB).set fA obA).h, [], oNone⟩
              have hre : ∀ (a : Nat), allIn a rd = true → ∀ z ∈ pre, z.kd = 1 → inSet a z.i = true := fun a ha z hz hkz => by
                obtain ⟨q, hq, q1, _, _⟩ := bk.reads z hz hkz
                rw [← q1]; exact allIn_ok ha q hq
              have bx := b.ext (x := x) (env1 := env) si hop (fun p => by show _ = putD outs o.dst und env p; rw [di]; rfl) (fun h => by cases h)
              have byy := b.ext (x := y') (env1 := env) sj hop' (fun p => by show _ = putD outs o'.dst und env p; rw [dj]; rfl) (fun h => by cases h)
              have sj' : StepOK ops dx (addTo D i) j o' := ⟨fun e => by
                rcases (inSet_add _ _ _).1 e with e | e
                · exact hij e.symm
                · exact sj.new e, sj.anc, fun t ht => (inSet_add _ _ _).2 (.inr (sj.sub t ht)), sj.dst, fun t ht => (sj.uses t ht).imp id fun h j' q hq hd => ⟨(h j' q hq hd).1, fun e => by
                rcases (inSet_add _ _ _).1 e with e | e
                · rw [e, hop] at hq; cases hq; rw [di] at hd; cases hd
                · exact (h j' q hq hd).2 e⟩⟩
              have si' : StepOK ops dx (addTo D j) i o := ⟨fun e => by
                rcases (inSet_add _ _ _).1 e with e | e
                · exact hij e
                · exact si.new e, si.anc, fun t ht => (inSet_add _ _ _).2 (.inr (si.sub t ht)), si.dst, fun t ht => (si.uses t ht).imp id fun h j' q hq hd => ⟨(h j' q hq hd).1, fun e => by
                rcases (inSet_add _ _ _).1 e with e | e
                · rw [e, hop'] at hq; cases hq; rw [dj] at hd; cases hd
                · exact (h j' q hq hd).2 e⟩⟩
              have bxy := bx.ext (x := y) (env1 := env) sj' hop' (fun p => by show _ = putD outs o'.dst und env p; rw [dj]; rfl) (fun h => by cases h)
              have byx := byy.ext (x := x') (env1 := env) si' hop (fun p => by show _ = putD outs o.dst und env p; rw [di]; rfl) (fun h => by cases h)
              have hdi : ∀ t, o.dst = some t → t < outs.n := fun t ht => by rw [di] at ht; cases ht
              have hdj : ∀ t, o'.dst = some t → t < outs.n := fun t ht => by rw [dj] at ht; cases ht
              have rx : ∀ B0, RecOK P outs ops env0 dx.anc B0 h00 n0 pre st.h x := fun B0 => rec_of b (x := x) si hop hdi (.act rfl (fun G w a hS hR next Q hn => dA G w a (b.envOK si.uses si.sub hS) hR hS.glob next Q hn) (fun z hz hk => .inl (subM_ok a2 (bk.acts z hz hk))) (fun z hz hk => .inl (hre _ a3 z hz hk)) (want_none gi))
              have ry' : ∀ B0, RecOK P outs ops env0 dx.anc B0 h00 n0 pre st.h y' := fun B0 => rec_of b (x := y') sj hop' hdj (.act rfl (fun G w a hS hR next Q hn => dB' G w a (b.envOK sj.uses sj.sub hS) hR hS.glob next Q hn) (fun z hz hk => .inl (subM_ok b2 (bk.acts z hz hk))) (fun z hz hk => .inl (hre _ b3 z hz hk)) (want_none gj))
              have ry : RecOK P outs ops env0 dx.anc (Bp j i) h00 n0 (pre ++ [x]) (st.set fA obA).h y := rec_of bx (x := y) sj' hop' hdj (.act rfl (fun G w a hS hR next Q hn => dB G w a (b.envOK sj.uses sj.sub (hS.sub fun z hz => by simp [hz])) hR hS.glob next Q hn) (fun z hz hk => by
                rcases List.mem_append.1 hz with hz | hz
                · exact .inl (subM_ok b2 (bk.acts z hz hk))
                · simp at hz; rw [hz]; exact .inr ⟨rfl, rfl⟩) (fun z hz hk => by
                rcases List.mem_append.1 hz with hz | hz
                · exact .inl (hre _ b3 z hz hk)
                · simp at hz; rw [hz] at hk; cases hk) (want_none gj))
              have rx' : RecOK P outs ops env0 dx.anc (Bp i j) h00 n0 (pre ++ [y']) (st.set fB obB).h x' := rec_of byy (x := x') si' hop hdi (.act rfl (fun G w a hS hR next Q hn => dA' G w a (b.envOK si.uses si.sub (hS.sub fun z hz => by simp [hz])) hR hS.glob next Q hn) (fun z hz hk => by
                rcases List.mem_append.1 hz with hz | hz
                · exact .inl (subM_ok a2 (bk.acts z hz hk))
                · simp at hz; rw [hz]; exact .inr ⟨rfl, rfl⟩) (fun z hz hk => by
                rcases List.mem_append.1 hz with hz | hz
                · exact .inl (hre _ a3 z hz hk)
                · simp at hz; rw [hz] at hk; cases hk) (want_none gi))
              have hc1 : Cov ops (pre ++ ([] ++ [x, y])) := fun t ht => by
                obtain ⟨z, hz, hzt⟩ := (bxy.dn t).1 (allSet_ok c3 (by rw [hn]; exact ht))
                exact ⟨z, by simpa using hz, hzt⟩
              have hc2 : Cov ops (pre ++ ([] ++ [y', x'])) := fun t ht => by
                have := allSet_ok c3 (show t < dx.n by rw [hn]; exact ht)
                have : inSet (addTo (addTo D j) i) t = true := by
                  rw [inSet_add, inSet_add] at this ⊢
                  rcases this with e | e | e
                  · exact .inr (.inl e)
                  · exact .inl e
                  · exact .inr (.inr e)
                obtain ⟨z, hz, hzt⟩ := (byx.dn t).1 this
                exact ⟨z, by simpa using hz, hzt⟩
              refine ⟨env, _, h2, .two [] x y x' y' hij rfl rfl rfl rfl rfl rfl di dj di dj (.cons (rx _) (.cons ry (.nil _ _))) (.cons (ry' _) (.cons rx' (by rw [← hend]; exact .nil _ _))) ?_ hc1 hc2 ?_ ?_⟩
              · have hl : loc.length = pre.length := by rw [b.locs]; simp
                rw [hl] at c1
                simp; omega
              · intro t ht
                have := bxy.envs t ht
                simpa using this
              · intro t ht
                have := byx.envs t ht
                simpa using this
            · exact absurd h.symm hA
          · exact absurd h.symm hA
        · exact absurd h.symm hA
      · exact absurd h.symm hA

theorem go_ok (hc : CallOK P call) (hops : dx.ops = ops.toList) (hn : dx.n = ops.size) (hnm : NmOK nm h00 n0) :
    ∀ (n D EA : Nat) (loc : List Nat) (len c : Nat) (rd : List Rd) (pre : List Rec) (ρ : List AV) (env : Env) (st : St) (k : Env → St → Ans) (A : Ans), pre.length + n = ops.size → BB outs ops env0 dx nm pre D loc len ρ env → BK P nm pre EA c rd → (dGo P outs dx n D EA loc len c rd).v call ρ env st k = A → A ≠ .bad →
      ∃ env' st', k env' st' = A ∧ Way P outs ops env0 dx.anc h00 n0 pre st.h env' st'.h
  | 0, D, EA, loc, len, c, rd, pre, ρ, env, st, k, A, hsz, b, bk, h, hA => by
    have h : (bsel (allSet D dx.n) hDone rBad).v call ρ env st k = A := h
    cases hs : allSet D dx.n with
    | false => rw [hs] at h; exact absurd h.symm hA
    | true =>
      rw [hs] at h
      rw [hn] at hs
      exact ⟨env, st, h, .one [] (.nil _ _) (by simp; omega) (by simpa using allSet_cov b.dn hs) (by simpa [EnvAt] using b.envs)⟩
  | n + 1, D, EA, loc, len, c, rd, pre, ρ, env, st, k, A, hsz, b, bk, h, hA => by
    have h : (fNR (pickN dx D) fun i => dStep P outs dx (dGo P outs dx n) D EA loc len c rd i).v call ρ env st k = A := h
    rw [fNR_eq] at h
    generalize pickN dx D = i at h
    have ih := go_ok hc hops hn hnm n
    have ih' : ∀ (D EA : Nat) (loc : List Nat) (len c : Nat) (rd : List Rd) (pre' : List Rec) (ρ : List AV) (env : Env) (st : St) (k : Env → St → Ans) (A : Ans), pre'.length = pre.length + 1 → BB outs ops env0 dx nm pre' D loc len ρ env → BK P nm pre' EA c rd → (dGo P outs dx n D EA loc len c rd).v call ρ env st k = A → A ≠ .bad →
      ∃ env' st', k env' st' = A ∧ Way P outs ops env0 dx.anc h00 n0 pre' st.h env' st'.h := fun D EA loc len c rd pre' ρ env st k A hp => ih D EA loc len c rd pre' ρ env st k A (by omega)
    unfold dStep at h
    split at h
    · exact absurd h.symm hA
    · rename_i o ho
      rw [opAt_eq, hops] at ho
      have hop : ops[i]? = some o := by simpa using ho
      generalize nand (Nat.beq (kindP P o.op) 3) (isPair dx D i) = pr at h
      cases pr with
      | true => exact pair_ok hc hops hn b bk hop h hA
      | false =>
        rw [bsel_false] at h
        cases hs : stepOk dx D i o with
        | false => rw [hs] at h; exact absurd h.symm hA
        | true =>
          rw [hs, bsel_true] at h
          have s := stepOk_ok hops hs
          split at h
          · rename_i hg
            exact kind_ok hc hops hnm ih' b bk s hop (fun x _ hxo => want_none (by rw [hxo]; exact hg)) h hA
          · rename_i g hg
            obtain ⟨g, want⟩ := g
            unfold dGuard at h
            split at h
            · exact absurd h.symm hA
            · rename_i og hog
              rw [opAt_eq, hops] at hog
              have hog : ops[g]? = some og := by simpa using hog
              split at h
              · exact absurd h.symm hA
              · rename_i u hu
                cases hsub : subM (wrOf dx.ops 0 (Nat.succ u)) (dx.anc i) with
                | false => rw [hsub] at h; exact absurd h.symm hA
                | true =>
                  rw [hsub, bsel_true] at h
                  split at h
                  · rename_i X hX
                    have ht : ∀ (j : Nat) (o' : Oper), ops[j]? = some o' → o'.dst = some u → inSet (dx.anc i) j = true := fun j o' hj hd => by
                      have := wrOf_ok (l := dx.ops) (i := 0) (j := j) (o := o') (by rw [hops]; simpa using hj) (u := Nat.succ u) (by rw [hd]; rfl)
                      rw [Nat.zero_add] at this
                      exact subM_ok hsub this
                    have h : asel (isB want (X.v ρ env)) _ _ = A := h
                    rcases p_asel h with ⟨hb, h⟩ | ⟨hb, h⟩
                    · exact kind_ok hc hops hnm ih' b bk s hop (fun x hxi hxo G a hS => by
                        rw [guard_at (by rw [hxo]; exact hg) hog hu (b.tmp (.inl ht) s.sub hX (by rw [← hxi]; exact hS)), hb]) h hA
                    · exact skip_ok ih' b bk s hop (fun x hxi hxo G a hS => by
                        rw [guard_at (by rw [hxo]; exact hg) hog hu (b.tmp (.inl ht) s.sub hX (by rw [← hxi]; exact hS)), hb]) h hA
                  · exact absurd h.symm hA
end
end Go.Ev
namespace Go.Ev
open Go

section
variable {P : Program} {outs : Cx} {ops : Array Oper} {env0 : Env} {anc : Nat → Nat} {B0 : Nat → Nat → Prop} {h00 : Hp} {n0 : Nat} {call : CallT}

theorem p_resv {st : St} {k : Id → St → Ans} {A : Ans} (h : resvK st k = A) (hA : A ≠ .bad) : (st.h st.next).g = 0 ∧ k st.next ⟨st.heap, Id.inc st.next⟩ = A := by
  unfold resvK at h; rw [son_eq, oon_eq] at h
  obtain ⟨h1, h2⟩ := p_when h hA
  rw [incK_eq] at h2
  exact ⟨(beq_iff _ _).1 h1, h2⟩
theorem res_names {rest : RM} {env : Env} {k : Env → St → Ans} {A : Ans} (hA : A ≠ .bad) : ∀ (m : Nat) (ρ : List AV) (st : St), (hRes m rest).v call ρ env st k = A → ∃ (nm : List AV) (st1 : St), rest.v call (nm ++ ρ) env st1 k = A ∧ st1.heap = st.heap ∧ st.h.nx ≤ st1.h.nx ∧
    (∀ v ∈ nm, (st.h v.f).g = 0 ∧ st.h.nx ≤ idv v.f ∧ idv v.f < st1.h.nx) ∧ nm.Pairwise fun a b => a.f ≠ b.f
  | 0, ρ, st, h => ⟨[], st, h, rfl, Nat.le_refl _, fun v hv => (by cases hv), .nil⟩
  | m + 1, ρ, st, h => by
    have h : (resvK st fun f st' => (hRes m rest).v call (vMap f :: ρ) env st' k) = A := h
    obtain ⟨h1, h2⟩ := p_resv h hA
    obtain ⟨nm, st1, h3, h4, h5, h6, h7⟩ := res_names hA m _ _ h2
    have hnx : (⟨st.heap, Id.inc st.next⟩ : St).h.nx = st.h.nx + 1 := idv_inc _
    rw [hnx] at h5
    have hm : ∀ f, (⟨st.heap, Id.inc st.next⟩ : St).h f = st.h f := fun _ => rfl
    refine ⟨nm ++ [vMap st.next], st1, by simpa using h3, h4, by omega, fun v hv => ?_, ?_⟩
    · rcases List.mem_append.1 hv with hv | hv
      · obtain ⟨a1, a2, a3⟩ := h6 v hv
        rw [hnx] at a2
        rw [hm] at a1
        exact ⟨a1, by omega, a3⟩
      · simp at hv; rw [hv]
        exact ⟨h1, Nat.le_refl _, by show st.h.nx < _; omega⟩
    · rw [List.pairwise_append]
      refine ⟨h7, by simp, fun a ha b hb => ?_⟩
      simp at hb; rw [hb]
      intro e
      have := (h6 a ha).2.1
      rw [hnx, e] at this
      have : st.h.nx + 1 ≤ st.h.nx := this
      omega

/-- Where all orders begin. -/
theorem inv_start {st st1 : St} {L : List Rec} {hf : Hp} {G : Gh} {w w' : World} {a : Act} (hR : Rel G st.h w) (hheap : st1.heap = st.heap) (hnx : st.h.nx ≤ st1.h.nx) (hw : w'.heap = w.heap) (hos : w'.os = w.os) (htp : w'.tape = w.tape) (hout : w'.output = w.output)
    (hl : Log P outs ops env0 anc B0 st1.h st.h.nx [] st1.h L hf) (hs : Slots G outs env0 a) (hG : GlobR P G) :
    Inv P outs ops env0 anc B0 st1.h st.h.nx G st.h w L hf [] L (Array.replicate ops.size false) st1.h G w' a := by
  have hm : ∀ f, st1.h f = st.h f := fun f => by show Tr.get _ _ st1.heap = Tr.get _ _ st.heap; rw [hheap]
  have hli : ∀ i, ¬ Li (Array.replicate ops.size false) i := fun i => by
    unfold Li
    rw [Array.getD_eq_getD_getElem?, Array.getElem?_replicate]
    split <;> simp
  have hrel : Rel G st1.h w' := by
    have := hR.heap_eq hw
    refine ⟨fun f m x hx => ?_, this.uniq, fun f => ?_⟩
    · obtain ⟨d1, d2, d3⟩ := this.dom f m x hx
      exact ⟨by omega, d2, by rw [hm]; exact d3⟩
    · rw [hm]; exact this.obj f
  refine { mem := ⟨⟨G.le_refl, hrel, hos, htp, hout, by rw [hw]; exact Nat.le_refl _, fun c _ _ => by rw [hw], fun f m x hx _ => ⟨m, x, hx, rfl⟩, fun f _ hz => by rw [hm]; exact hz, fun f _ => by rw [hm], hnx, fun _ _ _ _ => rfl⟩, fun x hx hk => ?_⟩
           eq := rfl
           log := hl
           past := rfl
           done := fun x hx => by cases hx
           todo := fun x _ _ => hli _
           look := fun x hx => by cases hx
           made := fun x _ h => absurd h (hli _)
           kept := fun t ht _ => hs.env t ht
           glob := hG
           size := hs.size
           defers := hs.defers
           lsize := by simp
           down := fun i h => absurd h (hli _) }
  obtain ⟨M, N, h', e, hr⟩ := hl.mem x hx
  cases hr.kind with
  | alloc _ _ _ _ hz hi hx' =>
    refine ⟨hz, hi, hx', fun h => absurd h (hli _), fun _ m => ?_⟩
    cases hb : G.β x.f m with
    | none => rfl
    | some z => have := (hR.dom _ _ _ hb).1; omega
  | pure h => omega
  | skip h => omega
  | look h => omega
  | act h => omega

/-- The slots at the end. -/
theorem slots_end {L : List Rec} {hf : Hp} {env' : Env} {G : Gh} {a : Act} (hl : Log P outs ops env0 anc B0 h00 n0 [] h00 L hf) (hc : Cov ops L) (he : EnvAt outs env0 L env') (made : ∀ x ∈ L, ∀ t, x.o.dst = some t → VR G x.r (a.eval (.tmp t)))
    (kept : ∀ t, outs.o t = true → (∀ (j : Nat) (o : Oper), ops[j]? = some o → o.dst ≠ some t) → VR G (Tr.get und (path t) env0) (a.eval (.tmp t))) (hz : outs.n ≤ a.tmps.size) (hd : a.defers = []) : SlotsR G outs [] [] env' a := by
  refine ⟨fun t ht => ?_, fun t i hi => (by cases hi), hz, hd⟩
  rcases he t ht with ⟨x, hx, h1, h2⟩ | ⟨h1, h2⟩
  · rw [h2]; exact made x hx t h1
  · rw [h2]
    refine kept t ht fun j o hj hdo => ?_
    obtain ⟨x, hx, hxj⟩ := hc j (Array.getElem?_eq_some_iff.1 hj).1
    obtain ⟨_, _, _, _, hr⟩ := hl.mem x hx
    have := hr.op
    rw [hxj, hj] at this
    cases this
    exact h1 x hx hdo

theorem count_le (L : List Rec) (listed : Array Bool) {n : Nat} (h : L.length ≤ n) : L.countP (fun x => !listed.getD x.i false) ≤ n := Nat.le_trans List.countP_le_length h

theorem draw_ok (hm : P.follows .mixedOrders = true) (hc : CallOK P call) : DrawOK P call := fun outs id ops env st k A h hA => by
  have h : (hRes (kCount P 2 ops.toList) (dGo P outs (mkDx P ops.toList) (lenL ops.toList 0) 0 0 [] 0 0 [])).v call [] env st k = A := h
  obtain ⟨nm, st1, h1, hheap, hnx, hnm, hpw⟩ := res_names hA _ _ _ h
  rw [List.append_nil] at h1
  have hlen : lenL ops.toList 0 = ops.size := by rw [lenL_eq]; simp
  have hst1 : ∀ f, st1.h f = st.h f := fun f => by show Tr.get _ _ st1.heap = Tr.get _ _ st.heap; rw [hheap]
  have hnm' : NmOK nm st1.h st.h.nx := fun k v hv => by
    obtain ⟨a1, a2, a3⟩ := hnm v (List.mem_of_getElem? hv)
    refine ⟨by rw [hst1]; exact a1, a2, a3, fun k' v' hv' hne => ?_⟩
    obtain ⟨l1, e1⟩ := List.getElem?_eq_some_iff.1 hv
    obtain ⟨l2, e2⟩ := List.getElem?_eq_some_iff.1 hv'
    rw [List.pairwise_iff_getElem] at hpw
    rcases Nat.lt_or_gt_of_ne hne with hlt | hlt
    · have := hpw k' k l2 l1 hlt
      rw [e1, e2] at this
      exact this
    · have := hpw k k' l1 l2 hlt
      rw [e1, e2] at this
      exact fun e => this e.symm
  have bb : BB outs ops env (mkDx P ops.toList) nm [] 0 [] 0 nm env := {
    dn := fun j => ⟨fun e => absurd e (inSet_zero j), fun ⟨x, hx, _⟩ => (by cases hx)⟩
    locs := rfl
    lens := rfl
    vals := rfl
    envs := fun t _ => .inr ⟨fun x hx => (by cases hx), rfl⟩
    op := fun x hx => by cases hx
    uses := fun x hx => by cases hx
    ancs := fun x hx => by cases hx }
  have bk : BK P nm [] 0 0 [] := ⟨fun x hx => (by cases hx), fun x hx => (by cases hx), fun x hx => (by cases hx), fun q hq => (by cases hq)⟩
  obtain ⟨env', st', hk, way⟩ := go_ok hc (dx := mkDx P ops.toList) rfl hlen hnm' (lenL ops.toList 0) 0 0 [] 0 0 [] [] nm env st1 k A (by simp [hlen]) bb bk h1 hA
  refine ⟨env', st', hk, fun G w a hs hG hR Q hQ => ?_⟩
  refine wp_region_any hm ?_
  have r0 := hR
  cases way with
  | one L hl hn hcov henv =>
    have I := inv_start (w' := { w with drawn := w.drawn + 1 }) hR hheap hnx rfl rfl rfl rfl hl hs hG
    refine any_ok r0 hl (by simpa [Cov] using hcov) (fun _ => True) (fun _ _ => False) (fun _ _ _ h => h) (fun _ _ x _ _ y _ h => h.elim) (fun _ _ _ _ _ _ _ _ _ _ _ x _ h => h.elim) (fun G' a' w' sim made kept hz hd => ?_) ops.size _ a _ G [] L st1.h I trivial (count_le _ _ (by simpa using hn))
    exact hQ G' a' w' [] [] sim (slots_end hl (by simpa using hcov) (by simpa using henv) made kept hz hd)
  | two M x y x' y' hne hx hy hkx hky hkx' hky' hdx hdy hdx' hdy' hl1 hl2 hn hcov1 hcov2 henv1 henv2 =>
    rw [List.nil_append] at hcov1 hcov2 henv1 henv2
    have I := inv_start (w' := { w with drawn := w.drawn + 1 }) hR hheap hnx rfl rfl rfl rfl hl1 hs hG
    have fin1 : ∀ G' a' w', Sim G st.h w G' st'.h w' → (∀ z ∈ M ++ [x, y], ∀ t, z.o.dst = some t → VR G' z.r (a'.eval (.tmp t))) →
        (∀ t, outs.o t = true → (∀ (j : Nat) (o : Oper), ops[j]? = some o → o.dst ≠ some t) → VR G' (Tr.get und (path t) env) (a'.eval (.tmp t))) → outs.n ≤ a'.tmps.size → a'.defers = [] → Q .normal a' w' := fun G' a' w' sim made kept hz hd => hQ G' a' w' [] [] sim (slots_end hl1 hcov1 henv1 made kept hz hd)
    have fin2 : ∀ G' a' w', Sim G st.h w G' st'.h w' → (∀ z ∈ M ++ [y', x'], ∀ t, z.o.dst = some t → VR G' z.r (a'.eval (.tmp t))) →
        (∀ t, outs.o t = true → (∀ (j : Nat) (o : Oper), ops[j]? = some o → o.dst ≠ some t) → VR G' (Tr.get und (path t) env) (a'.eval (.tmp t))) → outs.n ≤ a'.tmps.size → a'.defers = [] → Q .normal a' w' := fun G' a' w' sim made kept hz hd => hQ G' a' w' [] [] sim (slots_end hl2 hcov2 henv2 made kept hz hd)
    refine any_ok r0 hl1 hcov1 (fun _ => True) (fun listed i => i = y.i ∧ ¬ Li listed x.i) (fun _ _ _ h => h) (fun listed _ z _ hj u _ hb => ?_) (fun fuel listed a w2 G2 L1 L2 hh I2 _ hcnt z hz hj hrd => ?_) fin1 ops.size _ a _ G [] (M ++ [x, y]) st1.h I trivial (count_le _ _ (by simp at hn ⊢; omega))
    · apply Classical.byContradiction
      intro hn'
      exact hj ⟨hb.1, by rw [← hb.2]; exact hn'⟩
    · obtain ⟨hzy, hxu⟩ := hj
      have hix : ∀ (z : Rec), z ∈ M ++ [x, y] → z.i < listed.size := fun z hz => by
        obtain ⟨_, _, _, _, hr⟩ := hl1.mem z hz
        rw [I2.lsize]
        exact (Array.getElem?_eq_some_iff.1 hr.op).1
      have hyu : ¬ Li listed y.i := by
        rw [← hzy]
        exact (li_true (hix z hz)).1 (mem_ready.1 hrd).1
      have hpre : ∃ M2, M = L1 ++ M2 ∧ L2 = M2 ++ [x, y] := by
        have e := I2.eq
        rcases List.append_eq_append_iff.1 e with ⟨as, e1, e2⟩ | ⟨cs, e1, e2⟩
        · cases as with
          | nil => exact ⟨[], by simpa using e1.symm, by simpa using e2.symm⟩
          | cons q as =>
            have : q = x := by simp at e2; exact e2.1.symm
            subst this
            exact absurd (I2.done q (by rw [e1]; simp) (by omega)) hxu
        · exact ⟨cs, e1, e2⟩
      obtain ⟨M2, e1, e2⟩ := hpre
      have hMsub : ∀ z ∈ M, z ∈ M ++ [x, y] := fun z hz => by simp [hz]
      have hlog2 : Log P outs ops env (mkDx P ops.toList).anc (Bp x.i y.i) st1.h st.h.nx L1 hh (M2 ++ [y', x']) st'.h := by
        have q := hl2
        rw [e1, List.append_assoc] at q
        obtain ⟨h', q1, q2⟩ := q.split
        have q3 := q1.ends
        rw [← I2.past] at q3
        rw [q3] at q2
        simpa using q2
      have J2 : Inv P outs ops env (mkDx P ops.toList).anc (Bp x.i y.i) st1.h st.h.nx G st.h w (M ++ [y', x']) st'.h L1 (M2 ++ [y', x']) listed hh G2 w2 a := {
        mem := ⟨I2.mem.sim, fun z hz hk => by
          rcases List.mem_append.1 hz with hz | hz
          · exact I2.mem.al z (by rw [e2]; simp [hz]) hk
          · simp at hz
            rcases hz with hz | hz <;> rw [hz] at hk <;> omega⟩
        eq := by rw [e1]; simp
        log := hlog2
        past := I2.past
        done := I2.done
        todo := fun z hz hk => by
          rcases List.mem_append.1 hz with hz | hz
          · exact I2.todo z (by rw [e2]; simp [hz]) hk
          · simp at hz
            rcases hz with hz | hz
            · rw [hz, hy]; exact hyu
            · rw [hz, hx]; exact hxu
        look := fun z hz hk hu G w a hS hR => I2.look z hz hk hu G w a ⟨fun q hq hqi t ht => (by
          rcases List.mem_append.1 hq with hq | hq
          · exact hS.made q (by simp [hq]) hqi t ht
          · exfalso
            simp at hq
            rcases hq with hq | hq
            · rw [hq, hdx] at ht; cases ht
            · rw [hq, hdy] at ht; cases ht), hS.kept, hS.glob⟩ hR
        made := fun z hz hlz t ht => by
          rcases List.mem_append.1 hz with hz | hz
          · exact I2.made z (hMsub z hz) hlz t ht
          · simp at hz
            rcases hz with hz | hz
            · rw [hz, hdy'] at ht; cases ht
            · rw [hz, hdx'] at ht; cases ht
        kept := I2.kept
        glob := I2.glob
        size := I2.size
        defers := I2.defers
        lsize := I2.lsize
        down := I2.down }
      have hzi : z.i = y'.i := by rw [hzy, hy]
      rw [hzi] at hrd ⊢
      have hym : y' ∈ M ++ [y', x'] := by simp
      have hlt' : y'.i < listed.size := by rw [hy]; exact hix y (by simp)
      have hcnt2 : (M ++ [y', x']).countP (fun x => !listed.getD x.i false) ≤ fuel + 1 := by
        rw [List.countP_append, List.countP_cons, List.countP_cons, List.countP_nil] at hcnt ⊢
        rw [hx, hy]; omega
      refine step_ok r0 hl2 J2 hym hrd (fun u _ hb => absurd (hy ▸ hb.1).symm hne) fun a3 w3 G3 L3 L4 h3 I3 => ?_
      refine any_ok r0 hl2 hcov2 (fun listed => Li listed y.i) (fun _ _ => False) (fun listed i hi hl => (li_set hi).2 (.inr hl)) (fun listed hl z _ _ u _ hb => by rw [hb.2]; exact hl) (fun _ _ _ _ _ _ _ _ _ _ _ x _ h => h.elim) fin2 fuel _ a3 w3 G3 L3 L4 h3 I3 ((li_set hlt').2 (.inl hy.symm)) (count_set hym hlt' (by rw [hy]; exact hyu) hcnt2)
end
end Go.Ev
namespace Go.Ev
noncomputable section
/- chars.Escape -/
/-- what a byte becomes: how long, and its number -/
def escP (b : Nat) (k : Nat → Nat → Ans) : Ans :=
  asel (Nat.beq b 38) (k 5 255289286950) (asel (Nat.beq b 60) (k 4 997485606) (asel (Nat.beq b 62) (k 4 997484326) (asel (Nat.beq b 34) (k 6 65371272212774) (asel (Nat.beq b 39) (k 6 65366976913702)
  (asel (Nat.beq b 9) (k 4 993600294) (asel (Nat.beq b 10) (k 5 254211597094) (asel (Nat.beq b 13) (k 5 254261928742) (k 1 b))))))))
def escK (n s : Nat) (k : Nat → Nat → Ans) : Ans := Nat.rec (motive := fun _ => Nat → (Nat → Nat → Ans) → Ans) (fun _ k => k 0 0)
  (fun _ ih s k => fN (Nat.mod s 256) fun b => fN (Nat.div s 256) fun s' => ih s' fun m t => escP b fun j r => fN (Nat.add j m) fun m' => fN (Nat.add r (Nat.mul t (Nat.pow 256 j))) fun t' => k m' t') n s k
/-- good: the number of chars.Good, which is asked first -/
def xEscape (good : FuncId) : FM := ⟨fun call args st k => (hd und args).strK fun n s => whenK (nand (isEmp (tl args)) (Nat.ble n 2147483648)) (call good args st fun v st' => v.boolK fun b => whenK b (escK n s fun m t => k ⟨0, 0, 0, 0, 0, 0, .ofNat 0, [], [⟨4, m, t, 0, 0, 0, .ofNat 0, [], []⟩, ⟨3, 3, 0, 0, 0, 0, .ofNat 0, [], []⟩]⟩ st'))⟩
/-- bytealg.IndexByteString -/
def xIdx : FM := ⟨fun _ args st k => (hd und args).strK fun n s => (hd und (tl args)).intK fun j i => whenK (nand (Nat.beq j 4) (isEmp (tl (tl args)))) (natK i fun b => whenK (Nat.blt b 256) (kInt 3 (findB b n s 0) st k))⟩
/-- a call that is known to be true, and leaves all that was there -/
def xTrue : FM := ⟨fun _ args st k => whenK (isEmp args) (k ⟨2, 1, 0, 0, 0, 0, .ofNat 0, [], []⟩ st)⟩
end
end Go.Ev
namespace Go.Ev
open Go

section
variable {P : Program} {call : CallT}

/-- What keeps all that was there is a step. -/
theorem sim_below {G : Gh} {h : Hp} {w w' : World} (r : Rel G h w) (b : RowKit.Below w.heap.size w w') : Sim G h w G h w' where
  le := G.le_refl
  rel := by
    have hb : ∀ f m x, G.β f m = some x → w'.heap[x.1]? = w.heap[x.1]? := fun f m x hx => b.block x.1 (r.dom f m x hx).2.1
    refine ⟨fun f m x hx => ?_, r.uniq, fun f => ?_⟩
    · obtain ⟨d1, d2, d3⟩ := r.dom f m x hx
      exact ⟨d1, Nat.lt_of_lt_of_le d2 b.size, d3⟩
    · obtain ⟨o1, o2, o3⟩ := r.obj f
      refine ⟨fun hg => ⟨(o1 hg).le, fun m a c => ?_, (o1 hg).box⟩, fun hg => ?_, fun hg => ?_⟩
      · obtain ⟨c', off', en', b1, b2, b3, b4, arr', elem', lo', hi', b5, b6⟩ := (o1 hg).mem m a c
        exact ⟨c', off', en', b1, b2, b3, b4, arr', elem', lo', hi', by have := hb _ _ _ b1; simp only at this; rw [this]; exact b5, b6⟩
      · obtain ⟨c', es, b1, b2, b3⟩ := o2 hg
        exact ⟨c', es, b1, by have := hb _ _ _ b1; simp only at this; rw [this]; exact b2, b3⟩
      · obtain ⟨c', s, b1, b2, b3⟩ := o3 hg
        exact ⟨c', s, b1, by have := hb _ _ _ b1; simp only at this; rw [this]; exact b2, b3⟩
  os := b.os
  tape := b.tape
  output := b.output
  size := b.size
  frame := fun c hc _ => b.block c hc
  old := fun f m x hx _ => ⟨m, x, hx, rfl⟩
  frz := fun _ _ h => h
  keep := fun _ _ => Iff.rfl
  nx := Nat.le_refl _
  own := fun _ _ _ _ => rfl

theorem hd_cons {α : Type} (d x : α) (l : List α) : hd d (x :: l) = x := rfl
theorem call_enter {f : FuncId} {fn : Func} (hf : P.funcs[f]? = some fn) (hb : fn.body.isNone = false) (hname : (fn.name == "runtime.NumGoroutine") = false) (vs : Array Value) (w : World) : (callFunc f vs).run P w = .ok (.enter f vs) w := by
  have hname' : ¬ fn.name = "runtime.NumGoroutine" := by simpa using hname
  cases hbb : fn.body with
  | none => rw [hbb] at hb; cases hb
  | some b => simp [callFunc, hf, hname', hbb]

/-- One that hands on what it is given. -/
theorem same_ok {f : FuncId} {fn : Func} (hf : P.funcs[f]? = some fn) (hname : (fn.name == "runtime.NumGoroutine") = false) (hb : fn.body.isNone = true) (hn : Extern.findNext fn = none) (he : Extern.find fn = some Extern.AbiNoEscape.same) : FuncOK P f xSame call := fun args st k A h hA => by
  have h : whenK (nand (nnot (isEmp args)) (isEmp (tl args))) (fV (hd und args) fun v => k v st) = A := h
  obtain ⟨e, h⟩ := p_when h hA
  rw [fV_eq] at h
  cases args with
  | nil => cases e
  | cons x l =>
    have hl : l = [] := (isEmp_iff l).1 e
    subst hl
    refine ⟨x, st, h, fun G w vs hargs hR hG => ?_⟩
    have hlen := hargs.length
    have hs : vs.size = 1 := by simpa using hlen.symm
    obtain ⟨v, v1, v2⟩ := hargs.get (i := 0) (a := x) rfl
    have hv : vs = #[v] := by
      apply Array.toList_inj.1
      cases hvs : vs.toList with
      | nil => rw [hvs] at v1; cases v1
      | cons y ys =>
        rw [hvs] at v1
        have : ys = [] := by
          have := congrArg List.length hvs
          simp [hs] at this
          simpa using this
        subst this
        simp at v1; rw [v1]
    subst hv
    refine .inr ⟨v, w, G, ?_, Sim.refl hR, v2⟩
    rw [run_callFunc_extern hf hname hb hn he]
    rfl

theorem findB_ok (c : Nat) : ∀ (l : List Nat) (i : Nat), (∀ b ∈ l, b < 256) → (∃ k : Nat, l[k]? = some c ∧ (∀ j : Nat, j < k → l[j]? ≠ some c) ∧ findB c l.length (enc l) i = ((i + k : Nat) : Int)) ∨ ((∀ k : Nat, l[k]? ≠ some c) ∧ findB c l.length (enc l) i = -1)
  | [], i, _ => .inr ⟨fun k => by simp, rfl⟩
  | b :: l, i, hb => by
    have hb0 : b < 256 := hb b (by simp)
    have hm : Nat.mod (enc (b :: l)) 256 = b := by
      show (b + 256 * enc l) % 256 = b
      omega
    have hd : Nat.div (enc (b :: l)) 256 = enc l := by
      show (b + 256 * enc l) / 256 = enc l
      omega
    have hstep : findB c (b :: l).length (enc (b :: l)) i = bsel (Nat.beq (Nat.mod (enc (b :: l)) 256) c) (.ofNat i) (findB c l.length (Nat.div (enc (b :: l)) 256) (Nat.succ i)) := rfl
    rw [hstep, hm, hd]
    by_cases hbc : b = c
    · refine .inl ⟨0, by simp [hbc], fun j hj => by omega, ?_⟩
      rw [(beq_iff _ _).2 hbc]; rfl
    · rw [beq_no hbc, bsel_false]
      rcases findB_ok c l (Nat.succ i) (fun x hx => hb x (by simp [hx])) with ⟨k, h1, h2, h3⟩ | ⟨h1, h2⟩
      · refine .inl ⟨k + 1, by simpa using h1, fun j hj => ?_, by rw [h3]; congr 1; omega⟩
        cases j with
        | zero => simpa using hbc
        | succ j => simpa using h2 j (by omega)
      · refine .inr ⟨fun k => ?_, h2⟩
        cases k with
        | zero => simpa using hbc
        | succ k => simpa using h1 k

theorem firstIdx_ok (s : ByteArray) (c : Nat) (hc : c < 256) : findB c s.size (enc (bytesOf s)) 0 = firstIdx s c.toUInt8 := by
  have hlt : ∀ b ∈ bytesOf s, b < 256 := fun b hb => by
    simp [bytesOf] at hb
    obtain ⟨x, _, rfl⟩ := hb
    exact x.toNat_lt
  have hat : ∀ k, k < s.size → ((bytesOf s)[k]? = some c ↔ (s[k]! == c.toUInt8) = true) := fun k hk => by
    rw [bytesOf_get]
    have h1 : s.data[k]? = some s[k]! := by
      have : k < s.data.size := hk
      rw [Array.getElem?_eq_getElem this]
      congr 1
      rw [getElem!_pos s k hk]
      rfl
    rw [h1]
    simp only [Option.map_some, Option.some.injEq, beq_iff_eq]
    constructor
    · intro e
      rw [← e]; simp
    · intro e
      rw [e]
      simp [Nat.toUInt8, UInt8.toNat_ofNat', Nat.mod_eq_of_lt hc]
  have hsz := bytesOf_length s
  unfold firstIdx
  rw [← hsz]
  rcases findB_ok c (bytesOf s) 0 hlt with ⟨k, h1, h2, h3⟩ | ⟨h1, h2⟩
  · have hk : k < (bytesOf s).length := (List.getElem?_eq_some_iff.1 h1).1
    have : (List.range (bytesOf s).length).find? (fun i => s[i]! == c.toUInt8) = some k := by
      rw [List.find?_range_eq_some]
      refine ⟨(hat k (by omega)).1 h1, by simpa using hk, fun j hj => ?_⟩
      have := h2 j hj
      simp only [Bool.not_eq_true']
      cases hb : (s[j]! == c.toUInt8) with
      | false => rfl
      | true => exact absurd ((hat j (by omega)).2 hb) this
    rw [this, h3]; simp
  · have : (List.range (bytesOf s).length).find? (fun i => s[i]! == c.toUInt8) = none := by
      rw [List.find?_range_eq_none]
      intro j hj
      simp only [Bool.not_eq_true']
      cases hb : (s[j]! == c.toUInt8) with
      | false => rfl
      | true => exact absurd ((hat j (by omega)).2 hb) (h1 j)
    rw [this, h2]

theorem two_args {x y : AV} {vs : Array Value} {G : Gh} (h : VRs G [x, y] vs.toList) : ∃ a b, vs = #[a, b] ∧ VR G x a ∧ VR G y b := by
  have hv : ∀ l : List Value, VRs G [x, y] l → ∃ a b, l = [a, b] ∧ VR G x a ∧ VR G y b := fun l hl => by
    cases hl with
    | cons h1 t =>
      cases t with
      | cons h2 t => cases t; exact ⟨_, _, rfl, h1, h2⟩
  obtain ⟨a, b, e, h1, h2⟩ := hv _ h
  exact ⟨a, b, Array.toList_inj.1 (by simpa using e), h1, h2⟩
theorem one_arg {x : AV} {vs : Array Value} {G : Gh} (h : VRs G [x] vs.toList) : ∃ a, vs = #[a] ∧ VR G x a := by
  have hv : ∀ l : List Value, VRs G [x] l → ∃ a, l = [a] ∧ VR G x a := fun l hl => by
    cases hl with
    | cons h1 t => cases t; exact ⟨_, rfl, h1⟩
  obtain ⟨a, e, h1⟩ := hv _ h
  exact ⟨a, Array.toList_inj.1 (by simpa using e), h1⟩

theorem idx_ok {f : FuncId} {fn : Func} (hf : P.funcs[f]? = some fn) (hname : (fn.name == "runtime.NumGoroutine") = false) (hb : fn.body.isNone = true) (hn : Extern.findNext fn = none) (he : Extern.find fn = some Extern.BytealgIndexByte.indexByte) : FuncOK P f xIdx call := fun args st k A h hA => by
  have h : ((hd und args).strK fun n s => (hd und (tl args)).intK fun j i => whenK (nand (Nat.beq j 4) (isEmp (tl (tl args)))) (natK i fun b => whenK (Nat.blt b 256) (kInt 3 (findB b n s 0) st k))) = A := h
  obtain ⟨g1, h⟩ := p_str h hA
  obtain ⟨g2, h⟩ := p_int h hA
  obtain ⟨e, h⟩ := p_when h hA
  rw [nand_eq, Bool.and_eq_true, beq_iff] at e
  obtain ⟨b, hi, h⟩ := p_nat h hA
  obtain ⟨e2, h⟩ := p_when h hA
  rw [blt_iff] at e2
  rw [kInt_eq] at h
  refine ⟨_, st, h, fun G w vs hargs hR hG => ?_⟩
  match args, g1, g2, e, hi, hargs with
  | [], g1, _, _, _, _ => cases g1
  | [x], _, g2, _, _, _ => cases g2
  | x :: y :: l, g1, g2, e, hi, hargs =>
    have hl : l = [] := (isEmp_iff l).1 e.2
    subst hl
    obtain ⟨a, c, rfl, ha, hcc⟩ := two_args hargs
    obtain ⟨s, rfl, q1, q2⟩ := ha.i4 g1
    obtain ⟨rfl, _⟩ := hcc.i3 g2
    have hy4 : y.a = 4 := e.1
    have hyi : y.i = .ofNat b := hi
    rw [hy4, hyi]
    refine .inr ⟨.int .i64 (firstIdx s (Int.ofNat b).toNat.toUInt8), w, G, ?_, Sim.refl hR, ?_⟩
    · rw [run_callFunc_extern hf hname hb hn he]
      have := run_indexByte_string (P := P) s (Int.ofNat b) w
      rw [show kof 4 = IntKind.u8 from rfl, this]
      rfl
    · refine VR.mkInt .i64 _ _ rfl rfl ?_
      show findB b x.a x.b 0 = _
      rw [← q1, ← q2, firstIdx_ok s b e2]
      simp

/- chars.Escape -/
def escByte (b : UInt8) : List UInt8 :=
  if b = 38 then [38, 97, 109, 112, 59] else if b = 60 then [38, 108, 116, 59] else if b = 62 then [38, 103, 116, 59]
  else if b = 34 then [38, 113, 117, 111, 116, 59] else if b = 39 then [38, 97, 112, 111, 115, 59]
  else if b = 9 then [38, 35, 57, 59] else if b = 10 then [38, 35, 49, 48, 59] else if b = 13 then [38, 35, 49, 51, 59] else [b]
def escText (l : List UInt8) : List UInt8 := l.flatMap escByte
def natsOf (l : List UInt8) : List Nat := l.map (·.toNat)
theorem escP_ok (b : UInt8) (k : Nat → Nat → Ans) : escP b.toNat k = k (escByte b).length (enc (natsOf (escByte b))) := by
  have hne : ∀ n : UInt8, b ≠ n → Nat.beq b.toNat n.toNat = false := fun n h => beq_no fun e => h (UInt8.toNat_inj.1 e)
  unfold escP escByte
  by_cases h1 : b = 38
  · subst h1; rfl
  by_cases h2 : b = 60
  · subst h2; rfl
  by_cases h3 : b = 62
  · subst h3; rfl
  by_cases h4 : b = 34
  · subst h4; rfl
  by_cases h5 : b = 39
  · subst h5; rfl
  by_cases h6 : b = 9
  · subst h6; rfl
  by_cases h7 : b = 10
  · subst h7; rfl
  by_cases h8 : b = 13
  · subst h8; rfl
  have e1 := hne _ h1; have e2 := hne _ h2; have e3 := hne _ h3; have e4 := hne _ h4; have e5 := hne _ h5; have e6 := hne _ h6; have e7 := hne _ h7; have e8 := hne _ h8
  rw [show (38 : UInt8).toNat = 38 from rfl] at e1
  rw [show (60 : UInt8).toNat = 60 from rfl] at e2
  rw [show (62 : UInt8).toNat = 62 from rfl] at e3
  rw [show (34 : UInt8).toNat = 34 from rfl] at e4
  rw [show (39 : UInt8).toNat = 39 from rfl] at e5
  rw [show (9 : UInt8).toNat = 9 from rfl] at e6
  rw [show (10 : UInt8).toNat = 10 from rfl] at e7
  rw [show (13 : UInt8).toNat = 13 from rfl] at e8
  rw [e1, e2, e3, e4, e5, e6, e7, e8, if_neg h1, if_neg h2, if_neg h3, if_neg h4, if_neg h5, if_neg h6, if_neg h7, if_neg h8]
  show k 1 b.toNat = k 1 (b.toNat + 256 * 0)
  rw [Nat.mul_zero, Nat.add_zero]
theorem escK_ok : ∀ (l : List UInt8) (k : Nat → Nat → Ans), escK l.length (enc (natsOf l)) k = k (escText l).length (enc (natsOf (escText l)))
  | [], k => rfl
  | b :: l, k => by
    have hb : b.toNat < 256 := b.toNat_lt
    have hm : Nat.mod (enc (natsOf (b :: l))) 256 = b.toNat := by
      show (b.toNat + 256 * enc (natsOf l)) % 256 = b.toNat
      omega
    have hd : Nat.div (enc (natsOf (b :: l))) 256 = enc (natsOf l) := by
      show (b.toNat + 256 * enc (natsOf l)) / 256 = enc (natsOf l)
      omega
    have hstep : escK (b :: l).length (enc (natsOf (b :: l))) k = fN (Nat.mod (enc (natsOf (b :: l))) 256) fun b' => fN (Nat.div (enc (natsOf (b :: l))) 256) fun s' => escK l.length s' fun m t => escP b' fun j r => fN (Nat.add j m) fun m' => fN (Nat.add r (Nat.mul t (Nat.pow 256 j))) fun t' => k m' t' := rfl
    rw [hstep, fN_eq, fN_eq, hm, hd, escK_ok l, escP_ok, fN_eq, fN_eq]
    have h1 : escText (b :: l) = escByte b ++ escText l := by simp [escText]
    rw [h1]
    have h2 : natsOf (escByte b ++ escText l) = natsOf (escByte b) ++ natsOf (escText l) := by simp [natsOf]
    rw [h2, enc_append, List.length_append]
    have h3 : (natsOf (escByte b)).length = (escByte b).length := by simp [natsOf]
    rw [h3]
    show k _ (enc (natsOf (escByte b)) + enc (natsOf (escText l)) * 256 ^ (escByte b).length) = _
    rw [Nat.mul_comm (enc (natsOf (escText l)))]
    rfl

theorem escP_any (b : Nat) : ∃ m t, ∀ k : Nat → Nat → Ans, escP b k = k m t := by
  unfold escP
  have one : ∀ (c : Bool) (m t : Nat) (X : (Nat → Nat → Ans) → Ans), (∃ m t, ∀ k, X k = k m t) → ∃ m' t', ∀ k : Nat → Nat → Ans, asel c (k m t) (X k) = k m' t' := fun c m t X hX => by
    cases c with
    | true => exact ⟨m, t, fun k => rfl⟩
    | false => exact hX
  exact one _ _ _ _ (one _ _ _ _ (one _ _ _ _ (one _ _ _ _ (one _ _ _ _ (one _ _ _ _ (one _ _ _ _ (one _ _ _ _ ⟨_, _, fun k => rfl⟩)))))))
theorem escK_any : ∀ (n s : Nat), ∃ m t, ∀ k : Nat → Nat → Ans, escK n s k = k m t
  | 0, s => ⟨0, 0, fun k => rfl⟩
  | n + 1, s => by
    obtain ⟨m, t, h⟩ := escK_any n (Nat.div s 256)
    obtain ⟨j, r, h2⟩ := escP_any (Nat.mod s 256)
    refine ⟨Nat.add j m, Nat.add r (Nat.mul t (Nat.pow 256 j)), fun k => ?_⟩
    show (fN (Nat.mod s 256) fun b' => fN (Nat.div s 256) fun s' => escK n s' fun m t => escP b' fun j r => fN (Nat.add j m) fun m' => fN (Nat.add r (Nat.mul t (Nat.pow 256 j))) fun t' => k m' t') = _
    rw [fN_eq, fN_eq, h, h2, fN_eq, fN_eq]
theorem escape_ok (hc : CallOK P call) {f good : FuncId} {fe fg : Func} (hf : P.funcs[f]? = some fe) (hb : fe.body.isNone = false) (hname : (fe.name == "runtime.NumGoroutine") = false) (hfg : P.funcs[good]? = some fg) (hbg : fg.body.isNone = false) (hng : (fg.name == "runtime.NumGoroutine") = false)
    (hesc : ∀ (s : ByteArray) (w : World) (R : World → Prop), s.size ≤ 2147483648 → (Calls P good #[.string s] w fun e w1 => e = .returned (.bool true) ∧ R w1) →
      Calls P f #[.string s] w fun e w' => e = .returned (.tuple #[.string ⟨(escText s.data.toList).toArray⟩, .int .i64 0]) ∧ ∃ w1, R w1 ∧ RowKit.Below w1.heap.size w1 w') : FuncOK P f (xEscape good) call := fun args st k A h hA => by
  have h : ((hd und args).strK fun n s => whenK (nand (isEmp (tl args)) (Nat.ble n 2147483648)) (call good args st fun v st' => v.boolK fun b => whenK b (escK n s fun m t => k ⟨0, 0, 0, 0, 0, 0, .ofNat 0, [], [⟨4, m, t, 0, 0, 0, .ofNat 0, [], []⟩, ⟨3, 3, 0, 0, 0, 0, .ofNat 0, [], []⟩]⟩ st'))) = A := h
  obtain ⟨g1, h⟩ := p_str h hA
  obtain ⟨e, h⟩ := p_when h hA
  rw [nand_eq, Bool.and_eq_true, ble_iff] at e
  obtain ⟨r, st', h, hdo⟩ := hc _ _ _ _ _ h hA
  obtain ⟨g2, h⟩ := p_bool h hA
  obtain ⟨e2, h⟩ := p_when h hA
  cases args with
  | nil => cases g1
  | cons x l =>
    have hl : l = [] := (isEmp_iff l).1 e.1
    subst hl
    by_cases hex : ∃ s : ByteArray, s.size = x.a ∧ enc (bytesOf s) = x.b
    · obtain ⟨s, q1, q2⟩ := hex
      have h : escK x.a x.b _ = A := h
      have hlen : s.data.toList.length = x.a := by simpa using q1
      have henc : enc (natsOf s.data.toList) = x.b := q2
      rw [← hlen, ← henc, escK_ok] at h
      refine ⟨_, st', h, fun G w vs hargs hR hG => .inl ⟨call_enter hf hb hname vs w, ?_⟩⟩
      obtain ⟨a, rfl, ha⟩ := one_arg hargs
      obtain ⟨s', rfl, q1', q2'⟩ := ha.i4 g1
      have hss : s'.data.toList = s.data.toList := by
        have h1 := dec_enc (bytesOf s') (fun b hb => by
          simp [bytesOf] at hb
          obtain ⟨x, _, rfl⟩ := hb
          exact x.toNat_lt)
        have h2 := dec_enc (bytesOf s) (fun b hb => by
          simp [bytesOf] at hb
          obtain ⟨x, _, rfl⟩ := hb
          exact x.toNat_lt)
        rw [bytesOf_length, q1', q2'] at h1
        rw [bytesOf_length, q1, q2] at h2
        have h3 : bytesOf s' = bytesOf s := h1.symm.trans h2
        exact List.map_inj_right (fun a b hab => UInt8.toNat_inj.1 hab) |>.1 h3
      rcases hdo G w #[.string s'] hargs hR hG with ⟨_, hcl⟩ | ⟨v, w', G', hv, _, _⟩
      · refine (hesc s' w (fun w1 => ∃ G', Sim G st.h w G' st'.h w1) (by rw [q1']; exact e.2) (hcl.mono ?_)).mono ?_
        · rintro e w1 ⟨v, G', rfl, sim, hv⟩
          refine ⟨?_, G', sim⟩
          have := hv.i2 g2
          rw [this, e2]
        · rintro e w' ⟨rfl, w1, ⟨G', sim⟩, bel⟩
          refine ⟨_, G', rfl, Sim.trans hR sim (sim_below sim.rel bel), ?_⟩
          rw [hss]
          refine .tup _ _ rfl ?_
          refine .cons (.str _ _ rfl (by simp [ByteArray.size]) rfl) (.cons (VR.mkInt .i64 0 _ rfl rfl rfl) .nil)
      · rw [call_enter hfg hbg hng] at hv; cases hv
    · obtain ⟨m, t, hmt⟩ := escK_any x.a x.b
      have h : escK x.a x.b _ = A := h
      rw [hmt] at h
      refine ⟨_, st', h, fun G w vs hargs hR hG => ?_⟩
      obtain ⟨a, rfl, ha⟩ := one_arg hargs
      obtain ⟨s', rfl, q1', q2'⟩ := ha.i4 g1
      exact absurd ⟨s', q1', q2'⟩ hex
end
end Go.Ev
namespace Go.Ev
open Go

section
variable {P : Program}

/-- The package's variables, and nothing else. -/
noncomputable def G0 (P : Program) : Gh := ⟨fun f m => if m = 0 ∧ idv f < P.globals.size ∧ f = path (idv f) then some (idv f, 0, match P.globals[idv f]? with
  | some x => (sizeOf? P x.type).getD 0
  | none => 0) else none, fun _ => 0⟩
theorem g0_some {f : Id} {m : Nat} {x : Nat × Nat × Nat} (h : (G0 P).β f m = some x) : m = 0 ∧ idv f < P.globals.size ∧ f = path (idv f) ∧ x.1 = idv f ∧ x.2.1 = 0 := by
  simp only [G0] at h
  split at h
  · rename_i hc
    cases h
    exact ⟨hc.1, hc.2.1, hc.2.2, rfl, rfl⟩
  · cases h
def St0 (n : Nat) : St := ⟨.e, path n⟩
theorem idv_path (n : Nat) : idv (path n) = n := pathF_idv n n (Nat.le_refl _)
theorem st0_none (n : Nat) (f : Id) : ((St0 n).h f).g = 0 := by
  show (Tr.get oNone f .e).g = 0
  rw [get_e]; rfl
theorem start_rel {n : Nat} (hn : n = P.globals.size) {w : World} (hw : n ≤ w.heap.size) : Rel (G0 P) (St0 n).h w where
  dom := fun f m x hx => by
    obtain ⟨h1, h2, h3, h4, h5⟩ := g0_some hx
    refine ⟨?_, by omega, fun hg => by rw [st0_none] at hg; cases hg⟩
    show idv f < idv (path n)
    rw [idv_path]; omega
  uniq := fun f m x f' m' x' hx hx' he => by
    obtain ⟨h1, h2, h3, h4, h5⟩ := g0_some hx
    obtain ⟨k1, k2, k3, k4, k5⟩ := g0_some hx'
    have : idv f = idv f' := by omega
    exact ⟨by rw [h3, k3, this], by omega⟩
  obj := fun f => by
    have := st0_none n f
    exact ⟨fun h => by omega, fun h => by omega, fun h => by omega⟩
theorem start_glob : GlobR P (G0 P) := fun g x z hg hz => by
  have hlt : g < P.globals.size := (Array.getElem?_eq_some_iff.1 hg).1
  refine ⟨z, ?_, Nat.le_refl _⟩
  show (if (0 = 0) ∧ idv (path g) < P.globals.size ∧ path g = path (idv (path g)) then some (idv (path g), 0, match P.globals[idv (path g)]? with
    | some x => (sizeOf? P x.type).getD 0
    | none => 0) else none) = _
  rw [if_pos (by rw [idv_path]; exact ⟨rfl, hlt, rfl⟩), idv_path, hg]
  simp only [hz, Option.getD_some]

/-- Was there an answer? -/
noncomputable def isFin (a : Ans) : Nat := Ans.rec (motive := fun _ => Nat) 0 (fun _ _ => 1) a
/-- A run that came to its end, with yes. -/
structure Ran (P : Program) (H : Hook) (n : Nat) (f : FuncId) (args : List AV) (gl : Nat) : Prop where
  h : Nat.beq (isFin (run P H n f args (St0 gl) yesK)) 1 = true
/-- A CALL THAT IS TRUE wherever the package's variables are. -/
theorem start_true (hn : NoNum P) (hm : P.follows .mixedOrders = true) {H : Hook} (hh : HookOK P H) {n : Nat} {f : FuncId} {fn : Func} (hf : P.funcs[f]? = some fn) (hb : fn.body.isNone = false) {args : List AV} {gl : Nat} (hgl : gl = P.globals.size) (hr : Ran P H n f args gl)
    {vs : Array Value} (hargs : ∀ G, VRs G args vs.toList) {w : World} (hw : gl ≤ w.heap.size) :
    Calls P f vs w fun e w' => e = .returned (.bool true) ∧ RowKit.Below w.heap.size w w' := by
  have h := hr.h
  generalize hA : run P H n f args (St0 gl) yesK = A at h
  have hA' : A ≠ .bad := fun e => by rw [e] at h; cases h
  exact calls_true' hn (fun _ hc => draw_ok hm hc) hh hf hb hA hA' (hargs _) (start_rel hgl hw) start_glob fun g hg => absurd (st0_none gl g) hg

/-- A call that is known to be true. -/
theorem true_ok {call : CallT} {f : FuncId} {fn : Func} (hf : P.funcs[f]? = some fn) (hb : fn.body.isNone = false) (hname : (fn.name == "runtime.NumGoroutine") = false) {gl : Nat} (hgl : gl = P.globals.size) (hsz : ((P.globals[gl - 1]?).bind fun x => sizeOf? P x.type).isSome = true)
    (hcalls : ∀ w : World, gl ≤ w.heap.size → Calls P f #[] w fun e w' => e = .returned (.bool true) ∧ RowKit.Below w.heap.size w w') : FuncOK P f xTrue call := fun args st k A h hA => by
  have h : whenK (isEmp args) (k ⟨2, 1, 0, 0, 0, 0, .ofNat 0, [], []⟩ st) = A := h
  obtain ⟨e, h⟩ := p_when h hA
  have he := (isEmp_iff args).1 e
  subst he
  refine ⟨_, st, h, fun G w vs hargs hR hG => .inl ⟨call_enter hf hb hname vs w, ?_⟩⟩
  have hvs : vs = #[] := by
    have := hargs.length
    apply Array.eq_empty_of_size_eq_zero
    simpa using this.symm
  subst hvs
  have hw : gl ≤ w.heap.size := by
    obtain ⟨z, hz⟩ := Option.isSome_iff_exists.1 hsz
    obtain ⟨x, hlast, hz⟩ := Option.bind_eq_some_iff.1 hz
    have hpos : gl - 1 < P.globals.size := (Array.getElem?_eq_some_iff.1 hlast).1
    obtain ⟨en, b1, _⟩ := hG _ x z hlast hz
    have := (hR.dom _ _ _ b1).2.1
    simp only at this
    omega
  refine (hcalls w hw).mono ?_
  rintro e w' ⟨rfl, bel⟩
  exact ⟨_, G, rfl, sim_below hR bel, VR.mkBool true _ rfl rfl⟩
end
end Go.Ev
