/- The evaluator's code and functions are sound. Conditions: each theorem's own. -/
import Derived.Test.YtkgdchbflocblaaGreatDoorEwA
import Derived.Tactics
import Derived.ScopeJumps
import Derived.RowKit
set_option linter.unusedVariables false
namespace Go.Ev
open Go

/- numbers as paths -/
theorem pathF_idv : ∀ (f k : Nat), k ≤ f → idv (pathF f k) = k
  | 0, k, h => by have : k = 0 := by omega
                  subst this; rfl
  | f + 1, k, h => by
    unfold pathF
    by_cases h0 : k = 0
    · rw [if_pos h0, h0]; rfl
    · rw [if_neg h0]
      have ih := pathF_idv f ((k - 1) / 2) (by omega)
      cases hk : (k % 2 == 0) with
      | true =>
        have hk : k % 2 = 0 := by simpa using hk
        show 2 * idv (pathF f ((k - 1) / 2)) + 2 = k
        rw [ih]; omega
      | false =>
        have hk : ¬ k % 2 = 0 := by simpa using hk
        show 2 * idv (pathF f ((k - 1) / 2)) + 1 = k
        rw [ih]; omega
theorem path_inj {s t : Nat} (h : path s = path t) : s = t := by
  have h1 := pathF_idv s s (Nat.le_refl _)
  have h2 := pathF_idv t t (Nat.le_refl _)
  unfold path at h
  rw [h, h2] at h1
  exact h1.symm

/- the newest first -/
theorem locOf_cons (t u : Nat) (l : List Nat) (i : Nat) : locOf t (u :: l) i = bsel (Nat.beq u (Nat.succ t)) (Nat.succ i) (locOf t l (Nat.succ i)) := rfl
theorem locOf_shift (t : Nat) : ∀ (l : List Nat) (i : Nat), (locOf t l 0 = 0 ∧ locOf t l i = 0) ∨ ∃ j, locOf t l 0 = j + 1 ∧ locOf t l i = i + j + 1
  | [], i => .inl ⟨rfl, rfl⟩
  | u :: l, i => by
    rw [locOf_cons, locOf_cons]
    cases hb : Nat.beq u (Nat.succ t) with
    | true => exact .inr ⟨0, rfl, rfl⟩
    | false =>
      show (locOf t l 1 = 0 ∧ locOf t l (i + 1) = 0) ∨ ∃ j, locOf t l 1 = j + 1 ∧ locOf t l (i + 1) = i + j + 1
      rcases locOf_shift t l 1 with ⟨a, b⟩ | ⟨j, a, b⟩
      · rcases locOf_shift t l (i + 1) with ⟨c, d⟩ | ⟨k, c, d⟩
        · exact .inl ⟨b, d⟩
        · omega
      · rcases locOf_shift t l (i + 1) with ⟨c, d⟩ | ⟨k, c, d⟩
        · omega
        · exact .inr ⟨1 + j, by omega, by omega⟩

def EnvR (G : Gh) (outs : Cx) (env : Env) (a : Act) : Prop := ∀ t, outs.o t = true → VR G (Tr.get und (path t) env) (a.eval (.tmp t))
def LocR (G : Gh) (loc : List Nat) (ρ : List AV) (a : Act) : Prop := ∀ t i, locOf t loc 0 = i + 1 → VR G (nth und i ρ) (a.eval (.tmp t))
/-- The slots stand for what they are. -/
structure SlotsR (G : Gh) (outs : Cx) (loc : List Nat) (ρ : List AV) (env : Env) (a : Act) : Prop where
  env : EnvR G outs env a
  loc : LocR G loc ρ a
  size : outs.n ≤ a.tmps.size
  defers : a.defers = []

theorem GlobR.up {P : Program} {G G' : Gh} (h : GlobR P G) (hle : G.le G') : GlobR P G' := fun g x z h1 h2 => by
  obtain ⟨en, h3, h4⟩ := h g x z h1 h2
  exact ⟨en, (hle _ _ _ h3).1, h4⟩
theorem SlotsR.up {G G' : Gh} {outs : Cx} {loc : List Nat} {ρ : List AV} {env : Env} {a : Act} (h : SlotsR G outs loc ρ env a) (hle : G.le G') : SlotsR G' outs loc ρ env a :=
  ⟨fun t ht => (h.env t ht).up hle, fun t i hi => (h.loc t i hi).up hle, h.size, h.defers⟩

theorem tmp_ok {G : Gh} {outs : Cx} {loc : List Nat} {ρ : List AV} {env : Env} {a : Act} (h : SlotsR G outs loc ρ env a) {t : Nat} {X : Opd} (hx : cTmp outs loc t = some X) : VR G (X.v ρ env) (a.eval (.tmp t)) := by
  unfold cTmp at hx
  cases hl : locOf t loc 0 with
  | zero =>
    rw [hl] at hx
    have hx : bsel (outs.o t) (some (oEnv (path t))) none = some X := hx
    cases ho : outs.o t with
    | false => rw [ho] at hx; cases hx
    | true => rw [ho] at hx; cases hx; exact h.env t ho
  | succ i =>
    rw [hl] at hx
    have hx : some (oLoc i) = some X := hx
    cases hx
    exact h.loc t i hl
theorem opnd_ok {P : Program} {G : Gh} {outs : Cx} {loc : List Nat} {ρ : List AV} {env : Env} {a : Act} (h : SlotsR G outs loc ρ env a) (hg : GlobR P G) {x : Operand} {X : Opd} (hx : cOpnd P outs loc x = some X) : VR G (X.v ρ env) (a.eval x) := by
  cases x with
  | tmp t => exact tmp_ok h hx
  | const v =>
    simp only [cOpnd, Option.map_eq_some_iff] at hx
    obtain ⟨y, hy, rfl⟩ := hx
    exact ofVal_ok hy
  | global g =>
    simp only [cOpnd] at hx
    split at hx
    · cases hx
    · rename_i y hy
      split at hx
      · cases hx
      · rename_i z hz
        cases hx
        obtain ⟨en, h1, h2⟩ := hg g y z hy hz
        exact .ptr _ _ rfl ⟨g, 0, en, h1, Nat.le_refl _, by show 0 + z ≤ en; omega, rfl⟩
  | func f =>
    cases hx
    exact .func _ #[] #[] rfl rfl .nil
theorem envOK_of {P : Program} {G : Gh} {outs : Cx} {loc : List Nat} {ρ : List AV} {env : Env} {a : Act} (h : SlotsR G outs loc ρ env a) (hg : GlobR P G) (xs : Array Operand) : EnvOK G (cOpnd P outs loc) ρ env a xs := fun _ _ _ hX => opnd_ok h hg hX

/-- A slot is written. -/
theorem eval_put_same {a : Act} {t : Nat} (h : t < a.tmps.size) (v : Value) : (a.put (some t) v).eval (.tmp t) = v := by
  simp [Act.eval, Act.put, h]
theorem eval_put_ne {a : Act} {t u : Nat} (h : t ≠ u) (v : Value) : (a.put (some t) v).eval (.tmp u) = a.eval (.tmp u) := by
  simp [Act.eval, Act.put, Array.getElem?_setIfInBounds_ne h]

/-- What stands at a path once a slot is written. -/
noncomputable def putD (outs : Cx) (d : Option Tmp) (r : AV) (env : Env) (p : List Bool) : AV := match d with
  | some t => if outs.o t = true ∧ p = path t then r else Tr.get und p env
  | none => Tr.get und p env
theorem SlotsR.step {G : Gh} {outs : Cx} {loc : List Nat} {ρ : List AV} {env : Env} {a : Act} (h : SlotsR G outs loc ρ env a) {d : Option Tmp} (hd : ∀ t, d = some t → t < outs.n) {r : AV} {v : Value} (hv : VR G r v) {env' : Env}
    (he : ∀ p, Tr.get und p env' = putD outs d r env p) : SlotsR G outs (dstNo d :: loc) (r :: ρ) env' (a.put d v) := by
  cases d with
  | none =>
    refine ⟨fun t ht => ?_, fun t i hi => ?_, h.size, h.defers⟩
    · rw [he]; exact h.env t ht
    · rw [locOf_cons] at hi
      have hb : Nat.beq (dstNo none) (Nat.succ t) = false := rfl
      rw [hb] at hi
      have hi : locOf t loc 1 = i + 1 := hi
      rcases locOf_shift t loc 1 with ⟨_, b⟩ | ⟨j, a', b⟩
      · omega
      · obtain rfl : i = j + 1 := by omega
        exact h.loc t j a'
  | some s =>
    have hs := hd s rfl
    have hlt : s < a.tmps.size := Nat.lt_of_lt_of_le hs h.size
    refine ⟨fun t ht => ?_, fun t i hi => ?_, by simpa [Act.put] using h.size, h.defers⟩
    · rw [he]
      show VR G (if outs.o s = true ∧ path t = path s then r else Tr.get und (path t) env) _
      by_cases hst : s = t
      · subst hst
        simp only [ht, true_and, if_true]
        rw [eval_put_same hlt]; exact hv
      · have : ¬ (outs.o s = true ∧ path t = path s) := fun e => hst (path_inj e.2).symm
        simp only [this, if_false]
        rw [eval_put_ne hst]; exact h.env t ht
    · rw [locOf_cons] at hi
      cases hb : Nat.beq (dstNo (some s)) (Nat.succ t) with
      | true =>
        rw [hb] at hi
        rw [beq_iff] at hb
        have : s = t := Nat.succ.inj hb
        subst this
        have hi : Nat.succ 0 = i + 1 := hi
        obtain rfl : i = 0 := by omega
        rw [eval_put_same hlt]; exact hv
      | false =>
        rw [hb] at hi
        have hst : s ≠ t := fun e => by
          have : dstNo (some s) = Nat.succ t := by rw [e]; rfl
          rw [(beq_iff _ _).2 this] at hb; cases hb
        have hi : locOf t loc 1 = i + 1 := hi
        rcases locOf_shift t loc 1 with ⟨_, b⟩ | ⟨j, a', b⟩
        · omega
        · obtain rfl : i = j + 1 := by omega
          rw [eval_put_ne hst]
          exact h.loc t j a'
end Go.Ev
namespace Go.Ev
open Go

/-- Where in a region we stand. -/
structure OpsAt (ops : Array Oper) (l : List Oper) (i : Nat) (loc : List Nat) : Prop where
  here : ∀ j, l[j]? = ops[i + j]?
  past : ∀ j, j < i → ∃ o, ops[j]? = some o ∧ nth 0 (i - 1 - j) loc = dstNo o.dst
theorem OpsAt.next {ops : Array Oper} {o : Oper} {l : List Oper} {i : Nat} {loc : List Nat} (h : OpsAt ops (o :: l) i loc) : OpsAt ops l (i + 1) (dstNo o.dst :: loc) := by
  refine ⟨fun j => ?_, fun j hj => ?_⟩
  · have := h.here (j + 1)
    rw [show i + 1 + j = i + (j + 1) from by omega, ← this]; rfl
  · by_cases hji : j = i
    · subst hji
      refine ⟨o, ?_, ?_⟩
      · have := h.here 0
        rw [Nat.add_zero] at this
        rw [← this]; rfl
      · rw [show j + 1 - 1 - j = 0 from by omega]; rfl
    · obtain ⟨o', h1, h2⟩ := h.past j (by omega)
      refine ⟨o', h1, ?_⟩
      rw [show i + 1 - 1 - j = (i - 1 - j) + 1 from by omega]
      exact h2

section
variable {P : Program} {outs : Cx} {call : CallT}

theorem hOp_ok {d : Option Tmp} {m : M} {rest : RM} {ρ : List AV} {env : Env} {st : St} {k : Env → St → Ans} {A : Ans} {D : AV → St → Prop} (hm : ∀ (kk : KV), m.v call ρ env st kk = A → ∃ r st1, kk r st1 = A ∧ D r st1)
    (h : (hOp outs d m rest).v call ρ env st k = A) (hA : A ≠ .bad) : (∀ t, d = some t → t < outs.n) ∧ ∃ r st1 env1, rest.v call (r :: ρ) env1 st1 k = A ∧ D r st1 ∧ ∀ p, Tr.get und p env1 = putD outs d r env p := by
  cases d with
  | none =>
    have h : (hOpL m rest).v call ρ env st k = A := h
    obtain ⟨r, st1, h1, h2⟩ := hm _ h
    exact ⟨fun t ht => (by cases ht), r, st1, env, h1, h2, fun _ => rfl⟩
  | some t =>
    have h : (if t < outs.n then (if outs.o t = true then hOpE (path t) m rest else hOpL m rest) else rBad).v call ρ env st k = A := h
    by_cases hlt : t < outs.n
    · rw [if_pos hlt] at h
      refine ⟨fun u hu => (by cases hu; exact hlt), ?_⟩
      by_cases ho : outs.o t = true
      · rw [if_pos ho] at h
        obtain ⟨r, st1, h1, h2⟩ := hm _ h
        rw [setK_eq] at h1
        refine ⟨r, st1, _, h1, h2, fun p => ?_⟩
        rw [get_put]
        simp only [putD, ho, true_and]
      · rw [if_neg ho] at h
        obtain ⟨r, st1, h1, h2⟩ := hm _ h
        refine ⟨r, st1, env, h1, h2, fun p => ?_⟩
        simp only [putD, ho, Bool.false_eq_true, false_and, if_false]
    · rw [if_neg hlt] at h
      exact absurd h.symm hA

theorem isB_def (want : Bool) (v : AV) : isB want v = nand (Nat.beq v.g 2) (beqB want (Nat.beq v.a 1)) := by cases v; rfl
theorem VR.g2 {G : Gh} {x : AV} {b : Bool} (h : VR G x (.bool b)) : x.g = 2 := by
  cases h with
  | bool _ hg => exact hg
  | ptr _ _ _ h => obtain ⟨c, off, en, _, _, _, h⟩ := h; cases h
  | sl _ _ _ h => obtain ⟨c, off, en, p, q, _, h, _⟩ := h; cases h

/-- What a guard says. -/
theorem guard_ok {ops : Array Oper} {l : List Oper} {i : Nat} {loc : List Nat} {G : Gh} {ρ : List AV} {env : Env} {a : Act} (hat : OpsAt ops l i loc) (hs : SlotsR G outs loc ρ env a) {g : Nat} (hg : g < i) {u : Nat} (hu : nth 0 (i - 1 - g) loc = u + 1) {X : Opd} (hX : cTmp outs loc u = some X) (o : Oper) (want : Bool) (ho : o.guard = some (g, want)) :
    Region.wanted o (yielded ops a.tmps) = isB want (X.v ρ env) := by
  obtain ⟨o', h1, h2⟩ := hat.past g hg
  have hd : o'.dst = some u := by
    rw [hu] at h2
    cases hd : o'.dst with
    | none => rw [hd] at h2; cases h2
    | some t =>
      rw [hd] at h2
      have : u = t := Nat.succ.inj h2
      rw [this]
  have hv := tmp_ok hs hX
  have hy : yielded ops a.tmps g = match a.tmps[u]? with
      | some (.bool b) => some b
      | _ => none := by
    unfold yielded
    rw [h1]
    simp only [Option.bind_some, hd]
    cases a.tmps[u]? with
    | none => rfl
    | some v => cases v <;> rfl
  have he : a.eval (.tmp u) = (a.tmps[u]?).getD undef := by simp [Act.eval]
  unfold Region.wanted
  rw [ho]
  simp only
  rw [hy, isB_def, nand_eq, beqB_eq]
  cases ht : a.tmps[u]? with
  | none =>
    rw [he, ht] at hv
    have hg2 : (X.v ρ env).g ≠ 2 := fun e => by have := hv.i2 e; cases this
    rw [beq_no hg2]; rfl
  | some v =>
    rw [he, ht] at hv
    have hv : VR G (X.v ρ env) v := hv
    by_cases hg2 : (X.v ρ env).g = 2
    · have := hv.i2 hg2
      subst this
      rw [(beq_iff _ _).2 hg2]
      cases want <;> cases Nat.beq (X.v ρ env).a 1 <;> rfl
    · rw [beq_no hg2]
      cases v <;> first | rfl | exact absurd hv.g2 hg2

theorem ops_ok (hc : CallOK P call) : ∀ (l : List Oper) (i : Nat) (loc : List Nat) (ρ : List AV) (env : Env) (st : St) (k : Env → St → Ans) (A : Ans), (cOps P outs l i loc).v call ρ env st k = A → A ≠ .bad →
    ∃ env' st', k env' st' = A ∧ ∀ (ops : Array Oper) (G : Gh) (w : World) (a : Act), OpsAt ops l i loc → SlotsR G outs loc ρ env a → GlobR P G → Rel G st.h w → ∀ (Q : Exit → Act → World → Prop),
      (∀ G' a' w' loc' ρ', Sim G st.h w G' st'.h w' → SlotsR G' outs loc' ρ' env' a' → Q .normal a' w') → wpList P ops Q l a w
  | [], i, loc, ρ, env, st, k, A, h, hA => ⟨env, st, h, fun ops G w a _ hs hg hR Q hQ => hQ G a w loc ρ (Sim.refl hR) hs⟩
  | o :: l, i, loc, ρ, env, st, k, A, h, hA => by
    have h' : (cOper P outs o i loc (cOps P outs l (i + 1) (dstNo o.dst :: loc))).v call ρ env st k = A := h
    -- the operation and what follows
    have run : ∀ (rest : RM), rest = cOps P outs l (i + 1) (dstNo o.dst :: loc) → (hOp outs o.dst (cop P (cOpnd P outs loc) o.op) rest).v call ρ env st k = A →
        ∃ env' st', k env' st' = A ∧ ∀ (ops : Array Oper) (G : Gh) (w : World) (a : Act), OpsAt ops (o :: l) i loc → SlotsR G outs loc ρ env a → GlobR P G → Rel G st.h w → ∀ (Q : Exit → Act → World → Prop),
          (∀ G' a' w' loc' ρ', Sim G st.h w G' st'.h w' → SlotsR G' outs loc' ρ' env' a' → Q .normal a' w') → o.wp P a w (wpList P ops Q l) Q := fun rest hr hh => by
      subst hr
      obtain ⟨hd, r, st1, env1, h1, h2, h3⟩ := hOp_ok (call := call) (D := fun r st1 => Does P o (cOpnd P outs loc) ρ env st r st1) (fun kk hk => cop_ok hc o (cOpnd P outs loc) ρ env st kk A hk hA) hh hA
      obtain ⟨env', st', h4, h5⟩ := ops_ok hc l (i + 1) (dstNo o.dst :: loc) (r :: ρ) env1 st1 k A h1 hA
      refine ⟨env', st', h4, fun ops G w a hat hs hg hR Q hQ => ?_⟩
      refine h2 G w a (envOK_of hs hg _) hR hg _ Q fun G1 v w1 sim hv => ?_
      exact h5 ops G1 w1 _ hat.next ((hs.up sim.le).step hd hv h3) (hg.up sim.le) sim.rel Q fun G' a' w' loc' ρ' sim' hs' => hQ G' a' w' loc' ρ' (Sim.trans hR sim sim') hs'
    have skip : ∀ (rest : RM), rest = cOps P outs l (i + 1) (dstNo o.dst :: loc) → (hOp outs o.dst hMoveU rest).v call ρ env st k = A →
        ∃ env' st', k env' st' = A ∧ ∀ (ops : Array Oper) (G : Gh) (w : World) (a : Act), OpsAt ops (o :: l) i loc → SlotsR G outs loc ρ env a → GlobR P G → Rel G st.h w → ∀ (Q : Exit → Act → World → Prop),
          (∀ G' a' w' loc' ρ', Sim G st.h w G' st'.h w' → SlotsR G' outs loc' ρ' env' a' → Q .normal a' w') → wpList P ops Q l (a.put o.dst undef) w := fun rest hr hh => by
      subst hr
      obtain ⟨hd, r, st1, env1, h1, h2, h3⟩ := hOp_ok (call := call) (D := fun r st1 => r = und ∧ st1 = st) (fun kk hk => ⟨und, st, hk, rfl, rfl⟩) hh hA
      obtain ⟨rfl, rfl⟩ := h2
      obtain ⟨env', st', h4, h5⟩ := ops_ok hc l (i + 1) (dstNo o.dst :: loc) (und :: ρ) env1 st1 k A h1 hA
      refine ⟨env', st', h4, fun ops G w a hat hs hg hR Q hQ => ?_⟩
      exact h5 ops G w _ hat.next (hs.step hd VR.und h3) hg hR Q hQ
    unfold cOper at h'
    cases hgd : o.guard with
    | none =>
      rw [hgd] at h'
      obtain ⟨env', st', h4, h5⟩ := run _ rfl h'
      refine ⟨env', st', h4, fun ops G w a hat hs hg hR Q hQ => ?_⟩
      unfold wpList
      rw [if_pos (by simp [Region.wanted, hgd])]
      exact .inl (h5 ops G w a hat hs hg hR Q hQ)
    | some gw =>
      obtain ⟨g, want⟩ := gw
      rw [hgd] at h'
      by_cases hgi : g < i
      · have h' : (cGuard outs loc want (hOp outs o.dst (cop P (cOpnd P outs loc) o.op) (cOps P outs l (i + 1) (dstNo o.dst :: loc))) (hOp outs o.dst hMoveU (cOps P outs l (i + 1) (dstNo o.dst :: loc))) (nth 0 (Nat.sub (Nat.pred i) g) loc)).v call ρ env st k = A := by
          rw [← h']; simp only [hgi, if_true]
        unfold cGuard at h'
        cases hn : nth 0 (Nat.sub (Nat.pred i) g) loc with
        | zero => rw [hn] at h'; exact absurd h'.symm hA
        | succ u =>
          rw [hn] at h'
          have hn' : nth 0 (i - 1 - g) loc = u + 1 := hn
          cases hX : cTmp outs loc u with
          | none => simp only [hX] at h'; exact absurd h'.symm hA
          | some X =>
            simp only [hX, hGuard] at h'
            rcases p_asel h' with ⟨hb, h'⟩ | ⟨hb, h'⟩
            · obtain ⟨env', st', h4, h5⟩ := run _ rfl h'
              refine ⟨env', st', h4, fun ops G w a hat hs hg hR Q hQ => ?_⟩
              unfold wpList
              rw [if_pos (by rw [guard_ok hat hs hgi hn' hX o want hgd]; exact hb)]
              exact .inl (h5 ops G w a hat hs hg hR Q hQ)
            · obtain ⟨env', st', h4, h5⟩ := skip _ rfl h'
              refine ⟨env', st', h4, fun ops G w a hat hs hg hR Q hQ => ?_⟩
              unfold wpList
              rw [if_neg (by rw [guard_ok hat hs hgi hn' hX o want hgd, hb]; simp)]
              exact h5 ops G w a hat hs hg hR Q hQ
      · have h' : (rBad : RM).v call ρ env st k = A := by
          rw [← h']; simp only [hgi, if_false]
        exact absurd h'.symm hA

/-- A REGION THAT KEEPS THE ORDER OF THE TEXT. -/
theorem region_ok (hc : CallOK P call) {id : Nat} {ops : Array Oper} {env : Env} {st : St} {k : Env → St → Ans} {A : Ans} (h : (cOps P outs ops.toList 0 []).v call [] env st k = A) (hA : A ≠ .bad) :
    ∃ env' st', k env' st' = A ∧ ∀ (G : Gh) (w : World) (a : Act) (ρ0 : List AV) (loc0 : List Nat), SlotsR G outs loc0 ρ0 env a → GlobR P G → Rel G st.h w → ∀ (Q : Exit → Act → World → Prop),
      (∀ G' a' w' loc' ρ', Sim G st.h w G' st'.h w' → SlotsR G' outs loc' ρ' env' a' → Q .normal a' w') → (Code.region id ops false).wp P Q a w := by
  obtain ⟨env', st', h1, h2⟩ := ops_ok hc ops.toList 0 [] [] env st k A h hA
  refine ⟨env', st', h1, fun G w a ρ0 loc0 hs hg hR Q hQ => wp_region_list (h2 ops G w a ⟨fun j => by simp, fun j hj => by omega⟩ ⟨hs.env, fun t i hi => (by cases hi), hs.size, hs.defers⟩ hg hR Q hQ)⟩
end
end Go.Ev
namespace Go.Ev
open Go

section
variable {P : Program}

/-- A loop that goes on. -/
def LoopIn (P : Program) (c : Code) (Q : Exit → Act → World → Prop) (a : Act) (w : World) : Prop :=
  ∀ (b : Frame) (k : List Item) (cs : List Frame), ∃ e a' w', Q e a' w' ∧ Arrives P (lone (b.at a (.code c :: .inLoop c :: k)) cs w) b k cs e a' w'
theorem loop_in {c : Code} {Q : Exit → Act → World → Prop} {a : Act} {w : World} (h : c.wp P (Exit.then (LoopIn P c Q) Q) a w) : LoopIn P c Q a w := by
  intro b k cs
  obtain ⟨e, a₁, w₁, hq, harr⟩ := h b (.inLoop c :: k) cs
  cases e with
  | normal =>
    obtain ⟨e₂, a₂, w₂, hq₂, harr₂⟩ := hq b k cs
    exact ⟨e₂, a₂, w₂, hq₂, .of_steps (Steps.trans harr (.one step_inLoop)) harr₂⟩
  | exit id => exact ⟨_, a₁, w₁, hq, .pass (x := .inLoop c) rfl (fun _ _ => .inl (by simp)) harr⟩
  | goto l => exact ⟨_, a₁, w₁, hq, .pass (x := .inLoop c) rfl (fun _ _ => .inl (by simp)) harr⟩
  | ret => exact ⟨_, a₁, w₁, hq, .pass (x := .inLoop c) rfl (fun _ _ => .inl (by simp)) harr⟩
  | panic ch => exact ⟨_, a₁, w₁, hq, .pass (x := .inLoop c) rfl (fun _ _ => .inl (by simp)) harr⟩
  | outgrown => exact ⟨_, a₁, w₁, hq, .pass (x := .inLoop c) rfl (fun _ _ => .inl (by simp)) harr⟩
theorem wp_loop_in {c : Code} {Q : Exit → Act → World → Prop} {a : Act} {w : World} (h : LoopIn P c Q a w) : (Code.loop c).wp P Q a w := by
  intro b k cs
  obtain ⟨e, a', w', hq, harr⟩ := h b k cs
  exact ⟨e, a', w', hq, .of_steps (.one step_loop) harr⟩

/-- A scope that goes on with some of its code. -/
def ScopeIn (P : Program) (c rest : Code) (Q : Exit → Act → World → Prop) (a : Act) (w : World) : Prop :=
  ∀ (b : Frame) (k : List Item) (cs : List Frame), ∃ e a' w', Q e a' w' ∧ Arrives P (lone (b.at a (.code rest :: .inScope c :: k)) cs w) b k cs e a' w'
def scopeQ (P : Program) (c : Code) (Q : Exit → Act → World → Prop) : Exit → Act → World → Prop
  | .goto l, a, w => (∃ rest, findLabel c l = some rest ∧ ScopeIn P c rest Q a w) ∨ (findLabel c l = none ∧ Q (.goto l) a w)
  | e, a, w => Q e a w
theorem scope_in {c rest : Code} {Q : Exit → Act → World → Prop} {a : Act} {w : World} (h : rest.wp P (scopeQ P c Q) a w) : ScopeIn P c rest Q a w := by
  intro b k cs
  obtain ⟨e, a₁, w₁, hq, harr⟩ := h b (.inScope c :: k) cs
  cases e with
  | normal => exact ⟨.normal, a₁, w₁, hq, Steps.trans harr (.one step_inScope)⟩
  | exit id => exact ⟨.exit id, a₁, w₁, hq, fun k' hk => harr k' (by simp [exitTo, hk])⟩
  | goto l =>
    rcases hq with ⟨rest', hf, hs⟩ | ⟨hf, hq⟩
    · obtain ⟨e₂, a₂, w₂, hq₂, harr₂⟩ := hs b k cs
      exact ⟨e₂, a₂, w₂, hq₂, .of_steps (harr _ (by simp [gotoIn, hf])) harr₂⟩
    · exact ⟨.goto l, a₁, w₁, hq, fun k' hk => harr k' (by simp [gotoIn, hf, hk])⟩
  | ret => exact ⟨_, a₁, w₁, hq, harr⟩
  | panic ch => exact ⟨_, a₁, w₁, hq, harr⟩
  | outgrown => exact ⟨_, a₁, w₁, hq, harr⟩
theorem wp_scope_in {c : Code} {Q : Exit → Act → World → Prop} {a : Act} {w : World} (h : ScopeIn P c c Q a w) : (Code.scope c).wp P Q a w := by
  intro b k cs
  obtain ⟨e, a', w', hq, harr⟩ := h b k cs
  exact ⟨e, a', w', hq, .of_steps (.one step_scope) harr⟩

inductive Out where
  | n
  | x (j : Nat)
  | r
def exitOf : Out → Exit
  | .n => .normal
  | .x j => if j % 2 = 1 then .goto (j / 2) else .exit (j / 2)
  | .r => .ret
def outK (kn : KE) (kx : Nat → KE) (kr : KE) : Out → Env → St → Ans
  | .n => kn
  | .x j => kx j
  | .r => kr

abbrev Slots (G : Gh) (outs : Cx) (env : Env) (a : Act) : Prop := SlotsR G outs [] [] env a
theorem SlotsR.slots {G : Gh} {outs : Cx} {loc : List Nat} {ρ : List AV} {env : Env} {a : Act} (h : SlotsR G outs loc ρ env a) : Slots G outs env a := ⟨h.env, fun t i hi => (by cases hi), h.size, h.defers⟩

/-- What compiled code does. -/
def CodeAt (P : Program) (outs : Cx) (call : CallT) (c : Code) (m : CM) (env : Env) (st : St) (e : Out) (env' : Env) (st' : St) : Prop :=
  ∀ (G : Gh) (w : World) (a : Act), Slots G outs env a → GlobR P G → Rel G st.h w → ∀ (Q : Exit → Act → World → Prop),
    (∀ G' a' w', Sim G st.h w G' st'.h w' → Slots G' outs env' a' → Q (exitOf e) a' w') → c.wp P Q a w
def CodeOK (P : Program) (outs : Cx) (call : CallT) (c : Code) (m : CM) : Prop :=
  ∀ env st kn kx kr A, m.v call env st kn kx kr = A → A ≠ .bad → ∃ e env' st', outK kn kx kr e env' st' = A ∧ CodeAt P outs call c m env st e env' st'

/-- Drawn regions. -/
def DrawOK (P : Program) (call : CallT) : Prop := ∀ (outs : Cx) (id : Nat) (ops : Array Oper) (env : Env) (st : St) (k : Env → St → Ans) (A : Ans), (cDraw P outs ops.toList).v call [] env st k = A → A ≠ .bad →
  ∃ env' st', k env' st' = A ∧ ∀ (G : Gh) (w : World) (a : Act), Slots G outs env a → GlobR P G → Rel G st.h w → ∀ (Q : Exit → Act → World → Prop),
    (∀ G' a' w' loc' ρ', Sim G st.h w G' st'.h w' → SlotsR G' outs loc' ρ' env' a' → Q .normal a' w') → (Code.region id ops true).wp P Q a w

variable {outs : Cx} {call : CallT}
theorem codeBad {c : Code} : CodeOK P outs call c hCBad := fun _ _ _ _ _ _ h hA => absurd h.symm hA

theorem code_region (hc : CallOK P call) (hd : DrawOK P call) (id : Nat) (ops : Array Oper) (draw : Bool) : CodeOK P outs call (.region id ops draw) (hRegion (cReg P outs draw ops)) := fun env st kn kx kr A h hA => by
  cases draw with
  | false =>
    obtain ⟨env', st', h1, h2⟩ := region_ok (P := P) (outs := outs) hc (id := id) (ops := ops) (env := env) (st := st) (k := kn) h hA
    exact ⟨.n, env', st', h1, fun G w a hs hg hR Q hQ => h2 G w a [] [] hs hg hR Q fun G' a' w' loc' ρ' sim hs' => hQ G' a' w' sim hs'.slots⟩
  | true =>
    obtain ⟨env', st', h1, h2⟩ := hd outs id ops env st kn A h hA
    exact ⟨.n, env', st', h1, fun G w a hs hg hR Q hQ => h2 G w a hs hg hR Q fun G' a' w' loc' ρ' sim hs' => hQ G' a' w' sim hs'.slots⟩

theorem exitOf_odd {j : Nat} (h : j % 2 = 1) : exitOf (.x j) = .goto (j / 2) := if_pos h
theorem exitOf_even {j : Nat} (h : ¬ j % 2 = 1) : exitOf (.x j) = .exit (j / 2) := if_neg h
theorem then_pass {e : Out} (hne : e ≠ .n) {N : Act → World → Prop} {Q : Exit → Act → World → Prop} {a : Act} {w : World} (h : Q (exitOf e) a w) : Exit.then N Q (exitOf e) a w := by
  cases e with
  | n => exact absurd rfl hne
  | r => exact h
  | x j =>
    by_cases hj : j % 2 = 1
    · rw [exitOf_odd hj] at h ⊢; exact h
    · rw [exitOf_even hj] at h ⊢; exact h

theorem code_seq {x y : Code} {mx my : CM} (hx : CodeOK P outs call x mx) (hy : CodeOK P outs call y my) : CodeOK P outs call (.seq x y) (hSeq mx my) := fun env st kn kx kr A h hA => by
  obtain ⟨e, env1, st1, h1, h2⟩ := hx env st _ _ _ A h hA
  have pass : e ≠ .n → ∃ e' env' st', outK kn kx kr e' env' st' = A ∧ CodeAt P outs call (.seq x y) (hSeq mx my) env st e' env' st' := fun hne => by
    refine ⟨e, env1, st1, ?_, fun G w a hs hg hR Q hQ => wp_seq (h2 G w a hs hg hR _ fun G' a' w' sim hs' => ?_)⟩
    · cases e with
      | n => exact absurd rfl hne
      | x j => exact h1
      | r => exact h1
    · exact then_pass hne (hQ G' a' w' sim hs')
  cases e with
  | x j => exact pass (by simp)
  | r => exact pass (by simp)
  | n =>
    obtain ⟨e, env', st', h3, h4⟩ := hy env1 st1 _ _ _ A h1 hA
    refine ⟨e, env', st', h3, fun G w a hs hg hR Q hQ => wp_seq (h2 G w a hs hg hR _ fun G1 a1 w1 sim hs1 => ?_)⟩
    exact h4 G1 w1 a1 hs1 (hg.up sim.le) sim.rel Q fun G' a' w' sim' hs' => hQ G' a' w' (Sim.trans hR sim sim') hs'

theorem code_cond {q : Operand} {x y : Code} {mx my : CM} (hx : CodeOK P outs call x mx) (hy : CodeOK P outs call y my) : CodeOK P outs call (.cond q x y) (cCondO (cOpnd P outs [] q) mx my) := fun env st kn kx kr A h hA => by
  unfold cCondO at h
  cases hq : cOpnd P outs [] q with
  | none => rw [hq] at h; exact absurd h.symm hA
  | some X =>
    rw [hq] at h
    have h : ((X.v [] env).boolK fun t => asel t (mx.v call env st kn kx kr) (my.v call env st kn kx kr)) = A := h
    obtain ⟨g, h⟩ := p_bool h hA
    have hev : ∀ (G : Gh) (a : Act), Slots G outs env a → GlobR P G → a.eval q = .bool (Nat.beq (X.v [] env).a 1) := fun G a hs hg => (opnd_ok hs hg hq).i2 g
    rcases p_asel h with ⟨b, h⟩ | ⟨b, h⟩
    · obtain ⟨e, env', st', h1, h2⟩ := hx env st _ _ _ A h hA
      exact ⟨e, env', st', h1, fun G w a hs hg hR Q hQ => wp_cond (t := true) (by rw [hev G a hs hg, b]) (h2 G w a hs hg hR Q hQ)⟩
    · obtain ⟨e, env', st', h1, h2⟩ := hy env st _ _ _ A h hA
      exact ⟨e, env', st', h1, fun G w a hs hg hR Q hQ => wp_cond (t := false) (by rw [hev G a hs hg, b]) (h2 G w a hs hg hR Q hQ)⟩

theorem code_block {id : Nat} {x : Code} {mx : CM} (hx : CodeOK P outs call x mx) : CodeOK P outs call (.block id x) (hBlock (Nat.mul 2 id) mx) := fun env st kn kx kr A h hA => by
  obtain ⟨e, env', st', h1, h2⟩ := hx env st _ _ _ A h hA
  have key : ∀ e', outK kn kx kr e' env' st' = A → (∀ Q a w, Q (exitOf e') a w → Exit.inBlock id Q (exitOf e) a w) → ∃ e env' st', outK kn kx kr e env' st' = A ∧ CodeAt P outs call (.block id x) (hBlock (Nat.mul 2 id) mx) env st e env' st' := fun e' h3 h4 =>
    ⟨e', env', st', h3, fun G w a hs hg hR Q hQ => wp_block (h2 G w a hs hg hR _ fun G' a' w' sim hs' => h4 Q a' w' (hQ G' a' w' sim hs'))⟩
  cases e with
  | n => exact key .n h1 fun Q a w h => h
  | r => exact key .r h1 fun Q a w h => h
  | x j =>
    rcases p_asel h1 with ⟨b, h1⟩ | ⟨b, h1⟩
    · rw [beq_iff] at b
      have b : j = 2 * id := b
      refine key .n h1 fun Q a w h => ?_
      have : exitOf (.x j) = .exit id := by rw [exitOf_even (by omega), show j / 2 = id from by omega]
      rw [this]
      show (if id = id then Q .normal a w else _)
      rw [if_pos rfl]; exact h
    · have hb : j ≠ 2 * id := fun e => Bool.noConfusion (((beq_iff j (Nat.mul 2 id)).2 e).symm.trans b)
      refine key (.x j) h1 fun Q a w h => ?_
      by_cases hj : j % 2 = 1
      · rw [exitOf_odd hj] at h ⊢; exact h
      · rw [exitOf_even hj] at h ⊢
        show (if j / 2 = id then Q .normal a w else Q (.exit (j / 2)) a w)
        rw [if_neg (by omega)]; exact h

theorem code_loop {x : Code} {mx : CM} (hx : CodeOK P outs call x mx) : CodeOK P outs call (.loop x) (hLoop mx) := fun env st kn kx kr A h hA => by
  have key : ∀ (n : Nat) (env : Env) (st : St), loopF mx call n env st kx kr = A → ∃ e env' st', e ≠ .n ∧ outK kn kx kr e env' st' = A ∧
      ∀ (G : Gh) (w : World) (a : Act), Slots G outs env a → GlobR P G → Rel G st.h w → ∀ (Q : Exit → Act → World → Prop), (∀ G' a' w', Sim G st.h w G' st'.h w' → Slots G' outs env' a' → Q (exitOf e) a' w') → LoopIn P x Q a w := by
    intro n
    induction n with
    | zero => intro env st h; exact absurd h.symm hA
    | succ n ih =>
      intro env st h
      have h : mx.v call env st (fun env st => loopF mx call n env st kx kr) kx kr = A := h
      obtain ⟨e, env1, st1, h1, h2⟩ := hx env st _ _ _ A h hA
      have pass : e ≠ .n → _ := fun hne => (⟨e, env1, st1, hne, (by
          cases e with
          | n => exact absurd rfl hne
          | x j => exact h1
          | r => exact h1), fun G w a hs hg hR Q hQ => loop_in (h2 G w a hs hg hR _ fun G' a' w' sim hs' => then_pass hne (hQ G' a' w' sim hs'))⟩ : ∃ e env' st', e ≠ .n ∧ outK kn kx kr e env' st' = A ∧
      ∀ (G : Gh) (w : World) (a : Act), Slots G outs env a → GlobR P G → Rel G st.h w → ∀ (Q : Exit → Act → World → Prop), (∀ G' a' w', Sim G st.h w G' st'.h w' → Slots G' outs env' a' → Q (exitOf e) a' w') → LoopIn P x Q a w)
      cases e with
      | x j => exact pass (by simp)
      | r => exact pass (by simp)
      | n =>
        obtain ⟨e, env', st', hne, h3, h4⟩ := ih env1 st1 h1
        refine ⟨e, env', st', hne, h3, fun G w a hs hg hR Q hQ => loop_in (h2 G w a hs hg hR _ fun G1 a1 w1 sim hs1 => ?_)⟩
        exact h4 G1 w1 a1 hs1 (hg.up sim.le) sim.rel Q fun G' a' w' sim' hs' => hQ G' a' w' (Sim.trans hR sim sim') hs'
  obtain ⟨e, env', st', _, h1, h2⟩ := key loopFuel env st h
  exact ⟨e, env', st', h1, fun G w a hs hg hR Q hQ => wp_loop_in (h2 G w a hs hg hR Q hQ)⟩

theorem code_skip : CodeOK P outs call .skip hNop := fun env st kn kx kr A h _ => ⟨.n, env, st, h, fun G w a hs _ hR Q hQ => wp_skip (hQ G a w (Sim.refl hR) hs)⟩
theorem code_label (l : Nat) : CodeOK P outs call (.label l) hNop := fun env st kn kx kr A h _ => ⟨.n, env, st, h, fun G w a hs _ hR Q hQ => wp_label (hQ G a w (Sim.refl hR) hs)⟩
theorem code_ret : CodeOK P outs call .ret hRet := fun env st kn kx kr A h _ => ⟨.r, env, st, h, fun G w a hs _ hR Q hQ => wp_ret (hQ G a w (Sim.refl hR) hs)⟩
theorem code_exit (id : Nat) : CodeOK P outs call (.exit id) (hExit (Nat.mul 2 id)) := fun env st kn kx kr A h _ => ⟨.x (2 * id), env, st, h, fun G w a hs _ hR Q hQ => wp_exit (by
  have := hQ G a w (Sim.refl hR) hs
  rw [exitOf_even (by omega), show 2 * id / 2 = id from by omega] at this
  exact this)⟩
theorem code_goto (l : Nat) : CodeOK P outs call (.goto l) (hExit (Nat.succ (Nat.mul 2 l))) := fun env st kn kx kr A h _ => ⟨.x (2 * l + 1), env, st, h, fun G w a hs _ hR Q hQ => wp_goto (by
  have := hQ G a w (Sim.refl hR) hs
  rw [exitOf_odd (by omega), show (2 * l + 1) / 2 = l from by omega] at this
  exact this)⟩
end
end Go.Ev
namespace Go.Ev
open Go

section
variable {P : Program} {outs : Cx} {call : CallT}

/-- What stands behind the labels. -/
def LabOK (P : Program) (outs : Cx) (call : CallT) (c : Code) (lab : Nat → Option CM) : Prop :=
  ∀ l, (findLabel c l = none ∧ lab l = none) ∨ ∃ rest m, findLabel c l = some rest ∧ lab l = some m ∧ CodeOK P outs call rest m

theorem code_scope {x : Code} {mx : CM} {lab : Nat → Option CM} (hx : CodeOK P outs call x mx) (hl : LabOK P outs call x lab) : CodeOK P outs call (.scope x) (hScope lab mx) := fun env st kn kx kr A h hA => by
  have key : ∀ (n : Nat) (rest : Code) (m : CM) (env : Env) (st : St), CodeOK P outs call rest m → scopeF lab call n m env st kn kx kr = A → ∃ e env' st', outK kn kx kr e env' st' = A ∧
      ∀ (G : Gh) (w : World) (a : Act), Slots G outs env a → GlobR P G → Rel G st.h w → ∀ (Q : Exit → Act → World → Prop), (∀ G' a' w', Sim G st.h w G' st'.h w' → Slots G' outs env' a' → Q (exitOf e) a' w') → ScopeIn P x rest Q a w := by
    intro n
    induction n with
    | zero => intro rest m env st _ h; exact absurd h.symm hA
    | succ n ih =>
      intro rest m env st hm h
      have h : m.v call env st kn (scopeX lab (fun c env st => scopeF lab call n c env st kn kx kr) kx) kr = A := h
      obtain ⟨e, env1, st1, h1, h2⟩ := hm env st _ _ _ A h hA
      cases e with
      | n => exact ⟨.n, env1, st1, h1, fun G w a hs hg hR Q hQ => scope_in (h2 G w a hs hg hR _ fun G' a' w' sim hs' => hQ G' a' w' sim hs')⟩
      | r => exact ⟨.r, env1, st1, h1, fun G w a hs hg hR Q hQ => scope_in (h2 G w a hs hg hR _ fun G' a' w' sim hs' => hQ G' a' w' sim hs')⟩
      | x j =>
        have h1 : asel (Nat.beq (Nat.mod j 2) 1) (match lab (Nat.div j 2) with
          | some c => scopeF lab call n c env1 st1 kn kx kr
          | none => kx j env1 st1) (kx j env1 st1) = A := h1
        rcases p_asel h1 with ⟨b, h1⟩ | ⟨b, h1⟩
        · rw [beq_iff] at b
          have b : j % 2 = 1 := b
          rcases hl (j / 2) with ⟨f1, f2⟩ | ⟨rest', m', f1, f2, f3⟩
          · have h1 : kx j env1 st1 = A := by
              have e : lab (Nat.div j 2) = none := f2
              rw [e] at h1; exact h1
            refine ⟨.x j, env1, st1, h1, fun G w a hs hg hR Q hQ => scope_in (h2 G w a hs hg hR _ fun G' a' w' sim hs' => ?_)⟩
            have := hQ G' a' w' sim hs'
            rw [exitOf_odd b] at this ⊢
            exact .inr ⟨f1, this⟩
          · have h1 : scopeF lab call n m' env1 st1 kn kx kr = A := by
              have e : lab (Nat.div j 2) = some m' := f2
              rw [e] at h1; exact h1
            obtain ⟨e, env', st', h3, h4⟩ := ih rest' m' env1 st1 f3 h1
            refine ⟨e, env', st', h3, fun G w a hs hg hR Q hQ => scope_in (h2 G w a hs hg hR _ fun G1 a1 w1 sim hs1 => ?_)⟩
            rw [exitOf_odd b]
            exact .inl ⟨rest', f1, h4 G1 w1 a1 hs1 (hg.up sim.le) sim.rel Q fun G' a' w' sim' hs' => hQ G' a' w' (Sim.trans hR sim sim') hs'⟩
        · have b : ¬ j % 2 = 1 := fun e => Bool.noConfusion (((beq_iff (Nat.mod j 2) 1).2 e).symm.trans b)
          refine ⟨.x j, env1, st1, h1, fun G w a hs hg hR Q hQ => scope_in (h2 G w a hs hg hR _ fun G' a' w' sim hs' => ?_)⟩
          have := hQ G' a' w' sim hs'
          rw [exitOf_even b] at this ⊢
          exact this
  obtain ⟨e, env', st', h1, h2⟩ := key loopFuel x mx env st hx h
  exact ⟨e, env', st', h1, fun G w a hs hg hR Q hQ => wp_scope_in (h2 G w a hs hg hR Q hQ)⟩

theorem code_ok (hc : CallOK P call) (hd : DrawOK P call) : ∀ (c : Code), CodeOK P outs call c (ccB c P outs).c ∧ LabOK P outs call c (ccB c P outs).l := by
  intro c
  induction c with
  | skip => exact ⟨code_skip, fun l => .inl ⟨rfl, rfl⟩⟩
  | region id ops draw => exact ⟨code_region hc hd id ops draw, fun l => .inl ⟨rfl, rfl⟩⟩
  | seq a b iha ihb =>
    refine ⟨code_seq iha.1 ihb.1, fun l => ?_⟩
    have e1 : findLabel (.seq a b) l = match findLabel a l with
      | some rest => some (.seq rest b)
      | none => findLabel b l := rfl
    have e2 : (ccB (.seq a b) P outs).l l = match (ccB a P outs).l l with
      | some r => some (hSeq r (ccB b P outs).c)
      | none => (ccB b P outs).l l := rfl
    rw [e1, e2]
    rcases iha.2 l with ⟨f1, f2⟩ | ⟨rest, m, f1, f2, f3⟩
    · rw [f1, f2]; exact ihb.2 l
    · rw [f1, f2]
      exact .inr ⟨_, _, rfl, rfl, code_seq f3 ihb.1⟩
  | cond q a b iha ihb => exact ⟨code_cond iha.1 ihb.1, fun l => .inl ⟨rfl, rfl⟩⟩
  | block id b ih => exact ⟨code_block ih.1, fun l => .inl ⟨rfl, rfl⟩⟩
  | loop b ih => exact ⟨code_loop ih.1, fun l => .inl ⟨rfl, rfl⟩⟩
  | rangeFunc f ps a b _ _ => exact ⟨codeBad, fun l => .inl ⟨rfl, rfl⟩⟩
  | exit id => exact ⟨code_exit id, fun l => .inl ⟨rfl, rfl⟩⟩
  | scope b ih => exact ⟨code_scope ih.1 ih.2, fun l => .inl ⟨rfl, rfl⟩⟩
  | label l' =>
    refine ⟨code_label l', fun l => ?_⟩
    have e1 : findLabel (.label l') l = if l' == l then some .skip else none := rfl
    have e2 : (ccB (.label l') P outs).l l = if l' == l then some hNop else none := rfl
    rw [e1, e2]
    split
    · exact .inr ⟨_, _, rfl, rfl, code_skip⟩
    · exact .inl ⟨rfl, rfl⟩
  | goto l' => exact ⟨code_goto l', fun l => .inl ⟨rfl, rfl⟩⟩
  | ret => exact ⟨code_ret, fun l => .inl ⟨rfl, rfl⟩⟩
  | refuse why => exact ⟨codeBad, fun l => .inl ⟨rfl, rfl⟩⟩
end
end Go.Ev
namespace Go.Ev
open Go

section
variable {P : Program}

/-- One result. -/
def resOf (tmps : Array Value) : ResultVar → Sem Value
  | .tmp t => pure (tmps.getD t undef)
  | .cell a t => do loadVar t (← asAddr (tmps.getD a undef))
theorem results_eq (fn : Func) (tmps : Array Value) : results fn tmps = (do
    let vs ← fn.results.mapM (resOf tmps)
    pure (if h : vs.size = 1 then vs[0] else .tuple vs)) := by
  unfold results
  congr 1

theorem res_ok {outs : Cx} {env : Env} {st : St} {A : Ans} (hA : A ≠ .bad) : ∀ {rs : List ResultVar} {xs : List Rv} {k : List AV → Ans}, cRes P outs.o rs = some xs → resK env st xs k = A →
    ∃ vs, k vs = A ∧ ∀ (G : Gh) (w : World) (a : Act), Slots G outs env a → Rel G st.h w → ∃ us : List Value, VRs G vs us ∧ (rs.mapM (resOf a.tmps)).run P w = .ok us w
  | [], xs, k, h1, h2 => by
    cases h1
    exact ⟨[], h2, fun G w a _ _ => ⟨[], .nil, by simp⟩⟩
  | .tmp t :: rs, xs, k, h1, h2 => by
    simp only [cRes] at h1
    split at h1
    · rename_i ht
      split at h1
      · rename_i ys hys
        cases h1
        have h2 : (fV (Tr.get und (path t) env) fun v => resK env st ys fun vs => k (v :: vs)) = A := h2
        rw [fV_eq] at h2
        obtain ⟨vs, h3, h4⟩ := res_ok hA hys h2
        refine ⟨_, h3, fun G w a hs hR => ?_⟩
        obtain ⟨us, u1, u2⟩ := h4 G w a hs hR
        refine ⟨a.tmps.getD t undef :: us, .cons (hs.env t ht) u1, ?_⟩
        rw [List.mapM_cons]
        simp [resOf, u2]
      · cases h1
    · cases h1
  | .cell c t :: rs, xs, k, h1, h2 => by
    simp only [cRes] at h1
    split at h1
    · rename_i ht
      split at h1
      · rename_i ys hys
        split at h1
        · rename_i ha
          split at h1
          · rename_i n hn
            cases h1
            have h2 : ((Tr.get und (path c) env).ptrK fun f m o z => whenK (Nat.ble n z) (readK st f m o n fun cs => resK env st ys fun vs => k (⟨1, 0, 0, 0, 0, 0, .ofNat 0, [], cs⟩ :: vs))) = A := h2
            obtain ⟨g, h2⟩ := p_ptr h2 hA
            obtain ⟨e, h2⟩ := p_when h2 hA
            rw [ble_iff] at e
            obtain ⟨f1, f2, f3, f4, h2⟩ := p_read h2 hA
            obtain ⟨vs, h3, h4⟩ := res_ok hA hys h2
            refine ⟨_, h3, fun G w a hs hR => ?_⟩
            obtain ⟨us, u1, u2⟩ := h4 G w a hs hR
            obtain ⟨cc, off, en, b1, b2, b3, b4⟩ := (hs.env c ht).i6 g
            obtain ⟨ws, v1, v2, v3⟩ := hR.cells f1 f2 f3 b1 b2 (n := n) (by omega)
            refine ⟨.agg ws.toArray :: us, .cons (.agg _ _ rfl (by simpa using v2)) u1, ?_⟩
            have b4 : a.tmps.getD c undef = _ := b4
            rw [List.mapM_cons]
            simp only [resOf, b4]
            simp [asAddr, run_loadVarA ha hn v1 v3, u2]
          · cases h1
        · rename_i ha
          cases h1
          have h2 : ((Tr.get und (path c) env).ptrK fun f m o z => whenK (Nat.ble 1 z) (read1K st f m o fun v => resK env st ys fun vs => k (v :: vs))) = A := h2
          obtain ⟨g, h2⟩ := p_ptr h2 hA
          obtain ⟨e, h2⟩ := p_when h2 hA
          rw [ble_iff] at e
          obtain ⟨f1, f2, f3, r, f4, h2⟩ := p_read1 h2 hA
          obtain ⟨vs, h3, h4⟩ := res_ok hA hys h2
          refine ⟨_, h3, fun G w a hs hR => ?_⟩
          obtain ⟨us, u1, u2⟩ := h4 G w a hs hR
          obtain ⟨cc, off, en, b1, b2, b3, b4⟩ := (hs.env c ht).i6 g
          obtain ⟨_, _, _, arr, elem, lo, hi, ha', _, _, _, _, kv⟩ := hR.member f1 f2 f3 b1
          obtain ⟨v, hv, hr⟩ := kv _ r b2 (by omega) f4
          refine ⟨v :: us, .cons hr u1, ?_⟩
          have b4 : a.tmps.getD c undef = _ := b4
          rw [List.mapM_cons]
          simp only [resOf, b4]
          simp [asAddr, run_loadVar1 ha (by rw [cell_of ha']; exact hv), u2]
        · cases h1
      · cases h1
    · cases h1

theorem one_ok {vs : List AV} {st : St} {k : KV} {A : Ans} (h : oneK vs st k = A) : ∃ r, k r st = A ∧ ∀ (G : Gh) (us : Array Value), VRs G vs us.toList → VR G r (if h : us.size = 1 then us[0] else .tuple us) := by
  cases vs with
  | nil =>
    refine ⟨und, h, fun G us hu => ?_⟩
    have hl := hu.length
    have : us = #[] := by
      apply Array.eq_empty_of_size_eq_zero
      simpa using hl.symm
    subst this
    exact VR.und
  | cons v rest =>
    have h : asel (isEmp rest) (k v st) (k ⟨0, 0, 0, 0, 0, 0, .ofNat 0, [], v :: rest⟩ st) = A := h
    rcases p_asel h with ⟨e, h⟩ | ⟨e, h⟩
    · rw [isEmp_iff] at e
      subst e
      refine ⟨v, h, fun G us hu => ?_⟩
      have hl := hu.length
      have hs : us.size = 1 := by simpa using hl.symm
      rw [dif_pos hs]
      obtain ⟨u, hu1, hu2⟩ := hu.get (i := 0) (a := v) rfl
      rw [Array.getElem?_toList, Array.getElem?_eq_getElem (by omega)] at hu1
      cases hu1; exact hu2
    · refine ⟨_, h, fun G us hu => ?_⟩
      have hl := hu.length
      have hne : rest ≠ [] := fun e' => by rw [(isEmp_iff _).2 e'] at e; cases e
      have hs : ¬ us.size = 1 := by
        have : 0 < rest.length := List.length_pos_iff.2 hne
        simp at hl; omega
      rw [dif_neg hs]
      exact .tup _ _ rfl hu

theorem envOf_ok {outs : Nat → Bool} : ∀ (vs : List AV) (i : Nat) (env : Env) (k : Env → Ans), ∃ env', envOfK outs vs i env k = k env' ∧ ∀ t, outs t = true → Tr.get und (path t) env' = if i ≤ t ∧ t < i + vs.length then vs.getD (t - i) und else Tr.get und (path t) env
  | [], i, env, k => ⟨env, rfl, fun t _ => by
      have : ¬ (i ≤ t ∧ t < i + ([] : List AV).length) := fun h => by have := h.2; simp at this; omega
      rw [if_neg this]⟩
  | v :: vs, i, env, k => by
    have step : ∀ env1, (∀ t, outs t = true → Tr.get und (path t) env1 = if t = i then v else Tr.get und (path t) env) → ∃ env', envOfK outs vs (i + 1) env1 k = k env' ∧ ∀ t, outs t = true → Tr.get und (path t) env' = if i ≤ t ∧ t < i + (v :: vs).length then (v :: vs).getD (t - i) und else Tr.get und (path t) env := fun env1 h1 => by
      obtain ⟨env', e1, e2⟩ := envOf_ok vs (i + 1) env1 k
      refine ⟨env', e1, fun t ht => ?_⟩
      rw [e2 t ht]
      by_cases hti : t = i
      · subst hti
        rw [if_neg (by omega), h1 _ ht, if_pos rfl, if_pos (by simp)]
        simp
      · by_cases hin : i + 1 ≤ t ∧ t < i + 1 + vs.length
        · rw [if_pos hin, if_pos (by simp; omega)]
          rw [show t - i = (t - (i + 1)) + 1 from by omega]
          rfl
        · rw [if_neg hin, h1 _ ht, if_neg hti, if_neg (by simp; omega)]
    have h : envOfK outs (v :: vs) i env k = asel (outs i) (Tr.setK und v (path i) env fun env' => envOfK outs vs (i + 1) env' k) (envOfK outs vs (i + 1) env k) := rfl
    rw [h]
    cases ho : outs i with
    | true =>
      show ∃ env', Tr.setK und v (path i) env (fun env' => envOfK outs vs (i + 1) env' k) = k env' ∧ _
      rw [setK_eq]
      refine step _ fun t ht => ?_
      rw [get_put]
      by_cases hti : t = i
      · subst hti; rw [if_pos rfl, if_pos rfl]
      · rw [if_neg (fun e => hti (path_inj e)), if_neg hti]
    | false =>
      refine step env fun t ht => ?_
      have hti : t ≠ i := fun e => by rw [e, ho] at ht; cases ht
      rw [if_neg hti]

/-- No function with a body is the one that the model itself answers. -/
def NoNum (P : Program) : Prop := ∀ (f : FuncId) (fn : Func), P.funcs[f]? = some fn → fn.body.isNone = false → (fn.name == "runtime.NumGoroutine") = false

/-- What a compiled function does. -/
def FuncOK (P : Program) (f : FuncId) (m : FM) (call : CallT) : Prop := ∀ args st k A, m.v call args st k = A → A ≠ .bad → ∃ r st', k r st' = A ∧ CallDoes P f args st r st'

theorem func_ok {call : CallT} (hn : NoNum P) (hc : CallOK P call) (hd : DrawOK P call) (f : FuncId) : FuncOK P f (cFunc P f) call := fun args st k A h hA => by
  unfold cFunc at h
  split at h
  · exact absurd h.symm hA
  · rename_i fn hf
    split at h
    · exact absurd h.symm hA
    · rename_i body hb
      split at h
      · rename_i rs hrs
        generalize hous : inSet (needsC body (resT fn.results.toList 0)) = ous at h hrs
        have h : (envOfK ous args 0 .e fun env => ((ccB body P ⟨ous, fn.ntmps⟩).c).v call env st (fun env st' => resK env st' rs fun vs => oneK vs st' k) (fun _ _ _ => .bad) (fun env st' => resK env st' rs fun vs => oneK vs st' k)) = A := h
        obtain ⟨env0, h1, h2⟩ := envOf_ok (outs := ous) args 0 .e (fun env => ((ccB body P ⟨ous, fn.ntmps⟩).c).v call env st (fun env st' => resK env st' rs fun vs => oneK vs st' k) (fun _ _ _ => .bad) (fun env st' => resK env st' rs fun vs => oneK vs st' k))
        rw [h1] at h
        obtain ⟨e, env', st', h3, h4⟩ := (code_ok (outs := ⟨ous, fn.ntmps⟩) hc hd body).1 env0 st _ _ _ A h hA
        have hfin : (resK env' st' rs fun vs => oneK vs st' k) = A ∧ (exitOf e = .normal ∨ exitOf e = .ret) := by
          cases e with
          | n => exact ⟨h3, .inl rfl⟩
          | r => exact ⟨h3, .inr rfl⟩
          | x j => exact absurd h3.symm hA
        obtain ⟨vs, h5, h6⟩ := res_ok (P := P) (outs := ⟨ous, fn.ntmps⟩) hA hrs hfin.1
        obtain ⟨r, h7, h8⟩ := one_ok h5
        refine ⟨r, st', h7, fun G w us hargs hR hG => .inl ⟨?_, ?_⟩⟩
        · have hname := hn f fn hf (by rw [hb]; rfl)
          have hname' : ¬ fn.name = "runtime.NumGoroutine" := by simpa using hname
          simp [callFunc, hf, hname', hb]
        · refine calls_of_wp hf hb (h4 G w _ ⟨fun t ht => ?_, fun t i hi => (by cases hi), by simp; omega, rfl⟩ hG hR _ fun G' a' w' sim hs' => ?_)
          · have ht : ous t = true := ht
            rw [h2 t ht]
            have hl := hargs.length
            have hl : args.length = us.size := by simpa using hl
            by_cases hlt : t < args.length
            · rw [if_pos (by omega)]
              have e1 : args[t]? = some (args.getD t und) := by simp [hlt]
              obtain ⟨v, v1, v2⟩ := hargs.get e1
              rw [Nat.sub_zero]
              have : (({ tmps := us ++ Array.replicate (fn.ntmps - us.size) undef, defers := [] } : Act).eval (.tmp t)) = v := by
                simp only [Act.eval]
                rw [Array.getElem?_toList] at v1
                have hlt' : t < us.size := by omega
                rw [Array.getD_eq_getD_getElem?, Array.getElem?_append_left hlt', v1]; rfl
              rw [this]; exact v2
            · rw [if_neg (by omega), get_e]
              have : (({ tmps := us ++ Array.replicate (fn.ntmps - us.size) undef, defers := [] } : Act).eval (.tmp t)) = undef := by
                simp only [Act.eval]
                rw [Array.getD_eq_getD_getElem?, Array.getElem?_append_right (by omega), Array.getElem?_replicate]
                split <;> rfl
              rw [this]; exact VR.und
          · obtain ⟨ws, w1, w2⟩ := h6 G' w' a' hs' sim.rel
            have hres : (results fn a'.tmps).run P w' = .ok (if h : ws.toArray.size = 1 then ws.toArray[0] else .tuple ws.toArray) w' := by
              rw [results_eq, Array.mapM_eq_mapM_toList]
              simp [w2]
            have hpost : a'.defers = [] ∧ ∃ v, (results fn a'.tmps).run P w' = .ok v w' ∧ ∃ v' G'', Ending.returned v = Ending.returned v' ∧ Sim G st.h w G'' st'.h w' ∧ VR G'' r v' :=
              ⟨hs'.defers, _, hres, _, G', rfl, sim, h8 G' ws.toArray (by simpa using w1)⟩
            rcases hfin.2 with he | he <;> rw [he] <;> exact hpost
      · exact absurd h.symm hA
end
end Go.Ev
namespace Go.Ev
open Go

section
variable {P : Program}

/-- The hooks keep their word. -/
def HookOK (P : Program) (H : Hook) : Prop := ∀ f m, H f = some m → ∀ call, CallOK P call → FuncOK P f m call

theorem run_ok (hn : NoNum P) (hd : ∀ call, CallOK P call → DrawOK P call) {H : Hook} (hh : HookOK P H) : ∀ n, CallOK P (run P H n)
  | 0 => fun f args st k A h hA => absurd h.symm hA
  | n + 1 => fun f args st k A h hA => by
    have ih := run_ok hn hd hh n
    have h : (hookOr (H f) (cFunc P f)).v (run P H n) args st k = A := h
    cases hf : H f with
    | none => rw [hf] at h; exact func_ok hn ih (hd _ ih) f args st k A h hA
    | some m => rw [hf] at h; exact hh f m hf _ ih args st k A h hA

/-- Is it true? -/
noncomputable def yesK : KV := fun v _ => v.on fun g a _ _ _ _ _ _ _ => whenK (nand (Nat.beq g 2) (Nat.beq a 1)) (.fin und ⟨.e, []⟩)

/-- A CALL THAT IS TRUE, and leaves all that was there. -/
theorem calls_true' (hn : NoNum P) (hd : ∀ call, CallOK P call → DrawOK P call) {H : Hook} (hh : HookOK P H) {n : Nat} {f : FuncId} {fn : Func} (hf : P.funcs[f]? = some fn) (hb : fn.body.isNone = false) {args : List AV} {st : St} {A : Ans} (h : run P H n f args st yesK = A) (hA : A ≠ .bad)
    {G : Gh} {w : World} {vs : Array Value} (hargs : VRs G args vs.toList) (hR : Rel G st.h w) (hG : GlobR P G) (hz : ∀ g, (st.h g).g ≠ 0 → (st.h g).z = true) :
    Calls P f vs w fun e w' => e = .returned (.bool true) ∧ RowKit.Below w.heap.size w w' := by
  obtain ⟨r, st', h1, h2⟩ := run_ok hn hd hh n f args st yesK _ h hA
  unfold yesK at h1
  rw [on_eq] at h1
  obtain ⟨e, _⟩ := p_when h1 hA
  rw [nand_eq, Bool.and_eq_true, beq_iff, beq_iff] at e
  have hname := hn f fn hf hb
  have hname' : ¬ fn.name = "runtime.NumGoroutine" := by simpa using hname
  rcases h2 G w vs hargs hR hG with ⟨_, hc⟩ | ⟨v, w', G', hv, _, _⟩
  · refine hc.mono fun x w' hx => ?_
    obtain ⟨v, G', rfl, hs, hv⟩ := hx
    have := hv.i2 e.1
    rw [e.2] at this
    refine ⟨by rw [this]; rfl, ?_⟩
    refine ⟨hs.os, hs.tape, hs.output, hs.size, fun k hk => hs.frame k hk ?_⟩
    rintro ⟨f, m, x, _, _, hg, hzf⟩
    rw [hz f hg] at hzf; cases hzf
  · have : (callFunc f vs).run P w = .ok (.enter f vs) w := by
      cases hbb : fn.body with
      | none => rw [hbb] at hb; cases hb
      | some b => simp [callFunc, hf, hname', hbb]
    rw [this] at hv; cases hv
end
end Go.Ev
namespace Go.Ev
open Go

/-- What a new block is. -/
def BlkOK (G : Gh) (o : Obj) (blk : Go.Obj) (en sz : Nat) : Prop :=
  (o.g = 1 ∧ o.a = 0 ∧ o.b = 0 ∧ en = o.cells.length ∧ en ≤ sz ∧ ∃ arr elem, blk = .cells arr elem (0, 0) ∧ arr.size = sz ∧ (o.t ≠ 0 → o.t = elem + 1) ∧ ∀ (x : Nat) (a : AV), o.cells[x]? = some a → ∃ v, arr[x]? = some v ∧ VR G a v) ∨
  (o.g = 2 ∧ o.es = [] ∧ blk = .map #[] o.a ∧ en = 0)
theorem BlkOK.up {G G' : Gh} {o : Obj} {blk : Go.Obj} {en sz : Nat} (h : BlkOK G o blk en sz) (hle : G.le G') : BlkOK G' o blk en sz := by
  rcases h with ⟨h1, h2, h3, h4, h5, arr, elem, h6, h7, h8, h9⟩ | h
  · exact .inl ⟨h1, h2, h3, h4, h5, arr, elem, h6, h7, h8, fun x a hx => by
      obtain ⟨v, v1, v2⟩ := h9 x a hx
      exact ⟨v, v1, v2.up hle⟩⟩
  · exact .inr h
theorem BlkOK.g {G : Gh} {o : Obj} {blk : Go.Obj} {en sz : Nat} (h : BlkOK G o blk en sz) : o.g ≠ 0 := by
  rcases h with h | h <;> omega

theorem BlkOK.obj {G : Gh} {o : Obj} {blk : Go.Obj} {en sz : Nat} (h : BlkOK G o blk en sz) {f : Id} {w : World} {c : Nat} (hb : G.β f 0 = some (c, 0, en)) (hs : G.sz c = sz) (hw : w.heap[c]? = some blk) : ObjOK G f o w := by
  rcases h with ⟨h1, h2, h3, h4, h5, arr, elem, h6, h7, h8, h9⟩ | ⟨h1, h2, h3, h4⟩
  · refine ⟨fun _ => ⟨by omega, fun m m1 m2 => ?_, fun _ _ => ⟨c, en, hb⟩⟩, fun h => by omega, fun h => by omega⟩
    obtain rfl : m = 0 := by omega
    refine ⟨c, 0, en, hb, Nat.zero_le _, by omega, fun _ => h4, arr, elem, 0, 0, by rw [hw, h6], by rw [hs, h7], by omega, h8, fun _ p _ => by omega, fun x a _ _ hx => ?_⟩
    obtain ⟨v, v1, v2⟩ := h9 x a hx
    exact ⟨v, by simpa using v1, v2⟩
  · refine ⟨fun h => by omega, fun _ => ⟨c, #[], by rw [hb, h4], by rw [hw, h3], by rw [h2]; exact .nil⟩, fun h => by omega⟩

/-- A BLOCK THAT IS THERE ALREADY gets its place in the evaluator's heap. -/
theorem Rel.register {G : Gh} {h : Hp} {w : World} (r : Rel G h w) {f : Id} {c en sz : Nat} {o : Obj} {blk : Go.Obj} (hb : G.β f 0 = some (c, 0, en)) (h0 : ∀ m x, G.β f m = some x → m = 0) (hw : w.heap[c]? = some blk) (hs : G.sz c = sz) (hk : BlkOK G o blk en sz) :
    Rel G (Hp.up h f o) w where
  dom := fun f' m x hx => by
    obtain ⟨d1, d2, d3⟩ := r.dom f' m x hx
    by_cases hff : f' = f
    · subst hff
      exact ⟨d1, d2, fun _ => by rw [h0 m x hx]; exact Nat.zero_le _⟩
    · rw [Hp.up_ne _ _ hff]
      exact ⟨d1, d2, d3⟩
  uniq := r.uniq
  obj := fun f' => by
    by_cases hff : f' = f
    · subst hff
      rw [Hp.up_same]
      exact hk.obj hb hs hw
    · rw [Hp.up_ne _ _ hff]
      exact r.obj f'

/-- An operation that makes one new block, and does nothing else. -/
def Allocs (P : Program) (o : Oper) (c : Operand → Option Opd) (ρ : List AV) (env : Env) (mk : Id → AV) (ob : Obj) : Prop :=
  ∀ (G : Gh) (a : Act), EnvOK G c ρ env a o.op.operands → ∃ (blk : Go.Obj) (val : Nat → Value) (en sz : Nat), (∀ w, (execOp a.eval o).run P w = .ok (.value (val w.heap.size)) (w.alloc blk)) ∧ BlkOK G ob blk en sz ∧
    ∀ (G' : Gh) (f : Id) (cc : Nat), G.le G' → G'.β f 0 = some (cc, 0, en) → G'.sz cc = sz → VR G' (mk f) (val cc)
def AllocsM (P : Program) (o : Oper) (c : Operand → Option Opd) (m : M) : Prop :=
  ∀ call ρ env st k A, m.v call ρ env st k = A → A ≠ .bad → (st.h st.next).g = 0 ∧ ∃ mk ob, k (mk st.next) (st.add ob) = A ∧ Allocs P o c ρ env mk ob

section
variable {P : Program} {o : Oper} {c : Operand → Option Opd}
theorem bad_allocs : AllocsM P o c hBad := fun _ _ _ _ _ _ h hA => absurd h.symm hA
theorem alloc_a {t : TypeId} (ho : o.op = .alloc t) (z : AV) (n : Nat) (hz : zero? P t = some z) (hs : sizeOf? P t = some n) (hl : z.cells.length = n) : AllocsM P o c (hAlloc t z.cells n) := fun call ρ env st k A h hA => by
  simp only [hAlloc, newCellsK] at h
  obtain ⟨h1, h2⟩ := p_new h hA
  rw [kPtr_eq] at h2
  obtain ⟨inf, zv, i1, i2, i3⟩ := zero_ok hz
  refine ⟨h1, fun f => ⟨6, 0, 0, n, 0, 0, .ofNat 0, f, []⟩, _, h2, fun G a hE => ?_⟩
  have hv := (i3 G).cells
  have hlen := hv.length
  refine ⟨.cells zv.cells t (0, 0), fun cc => .pointer (some ⟨cc, 0, none⟩), z.cells.length, zv.cells.size, fun w => ?_, .inl ⟨rfl, rfl, rfl, rfl, by simpa using Nat.le_of_eq hlen, zv.cells, t, rfl, rfl, fun _ => rfl, fun x b hb => ?_⟩, fun G' f cc _ hb _ => .ptr _ _ rfl ⟨cc, 0, _, hb, Nat.zero_le _, by show 0 + n ≤ _; omega, rfl⟩⟩
  · simp [execOp, ho, Instr.alloc, zeroValue, typeInfo, i1, i2, newVar, newRow]
  · obtain ⟨v, hv1, hv2⟩ := hv.get hb
    exact ⟨v, by simpa using hv1, hv2⟩
theorem box_a {t : TypeId} {x : Operand} {X : Opd} (ho : o.op = .box t x) (hx : c x = some X) : AllocsM P o c (hBox t X) := fun call ρ env st k A h hA => by
  simp only [hBox, newCellsK] at h
  rw [cellsK_eq] at h
  obtain ⟨h1, h2⟩ := p_new h hA
  rw [kPtr_eq, lenL_eq, Nat.add_zero] at h2
  refine ⟨h1, fun f => ⟨6, 0, 0, (X.v ρ env).cells.length, 0, 0, .ofNat 0, f, []⟩, _, h2, fun G a hE => ?_⟩
  have hv := (hE x (by simp [ho, Op.operands]) _ hx).cells
  have hlen := hv.length
  refine ⟨.cells (a.eval x).cells t (0, 0), fun cc => .pointer (some ⟨cc, 0, none⟩), (X.v ρ env).cells.length, (a.eval x).cells.size, fun w => ?_, .inl ⟨rfl, rfl, rfl, rfl, by simpa using Nat.le_of_eq hlen, _, t, rfl, rfl, fun _ => rfl, fun y b hb => ?_⟩, fun G' f cc _ hb _ => .ptr _ _ rfl ⟨cc, 0, _, hb, Nat.zero_le _, by show 0 + (X.v ρ env).cells.length ≤ _; omega, rfl⟩⟩
  · simp [execOp, ho, Instr.box, newVar, newRow]
  · obtain ⟨v, hv1, hv2⟩ := hv.get hb
    exact ⟨v, by simpa using hv1, hv2⟩
theorem makeMap_a {t : TypeId} (ho : o.op = .makeMap t none) : AllocsM P o c hMakeMap := fun call ρ env st k A h hA => by
  simp only [hMakeMap] at h
  obtain ⟨g0, h⟩ := p_new h hA
  refine ⟨g0, fun f => ⟨10, 0, 0, 0, 0, 0, .ofNat 0, f, []⟩, _, h, fun G a hE => ⟨.map #[] 0, fun cc => .map (some cc), 0, 0, fun w => ?_, .inr ⟨rfl, rfl, rfl, rfl⟩, fun G' f cc _ hb _ => .map _ _ _ _ rfl hb⟩⟩
  simp [execOp, ho, Instr.makeMap]
end
end Go.Ev
namespace Go.Ev
open Go

section
variable {P : Program} {o : Oper} {c : Operand → Option Opd}
theorem buildSl_a {t : TypeId} {len : Nat} {parts : Array (Nat × Operand)} (ho : o.op = .buildSlice t len parts) : AllocsM P o c (cBuildSl P c t len parts.toList) := by
  unfold cBuildSl
  split
  · rename_i el hu
    split
    · exact bad_allocs
    · rename_i n hs
      split
      · exact bad_allocs
      · rename_i z hz
        split
        · exact bad_allocs
        · rename_i qs hq
          split
          · rename_i hc
            obtain ⟨hn, hzl, hle⟩ := hc
            intro call ρ env st k A h hA
            simp only [hBuildSl, newCellsK] at h
            obtain ⟨cells', h1, h2, h3⟩ := fill_ok hA hq h
            obtain ⟨h4, h5⟩ := p_new h1 hA
            rw [kSl_eq] at h5
            refine ⟨h4, fun f => ⟨8, 0, 0, len, n, Nat.succ len, .ofNat 0, f, []⟩, _, h5, fun G a hE => ?_⟩
            obtain ⟨inf, zv, i1, i2, i3⟩ := zero_ok hz
            have hzv := (i3 G).cells
            have hzlen : zv.cells.size = n := by have := hzv.length; simp at this; omega
            have hmade := made_VRs hzv (by omega) len
            rw [hzl] at hmade
            obtain ⟨cs', h6, h7⟩ := h3 G a _ hmade (fun p hp X hX => hE p.2 (by
              rw [ho]; simp only [Op.operands]
              simp
              exact ⟨p.1, by simpa using hp⟩) X hX)
            have hlen := h7.length
            have hcl : cells'.length = len * n := by rw [h2, repCells_len, hzl]
            have hsz : cs'.size = len * n := by simpa [hcl] using hlen.symm
            refine ⟨.cells cs' el (0, 0), fun cc => .slice (some ⟨cc, 0, none⟩) len len, cells'.length, cs'.size, fun w => ?_, .inl ⟨rfl, rfl, rfl, rfl, by simpa using Nat.le_of_eq hlen, cs', el, rfl, rfl, fun _ => rfl, fun x b hb => ?_⟩,
              fun G' f cc _ hb hs' => .sl _ _ rfl ⟨cc, 0, cells'.length, 0, len, hb, rfl, Nat.le_refl _, .inr rfl, hn, .inr ⟨Nat.zero_le _, rfl, by show 0 + len * n ≤ _; omega, by show 0 + len * n ≤ _; omega⟩⟩⟩
            · have hnle : ¬ 16777216 < len * n := by omega
              have hrow : (Array.range (len * n)).map (fun x => zv.cells[x % zv.cells.size]!) = madeCells zv.cells (len * n) := rfl
              have hfill : Instr.fill (fun i => some (i * n, n)) (madeCells zv.cells (len * n)) (parts.map fun (i, x) => (i, a.eval x)).toList = some cs' := by rw [Array.toList_map]; exact h6
              by_cases h0 : len * n = 0
              · have hrow0 : madeCells zv.cells (len * n) = #[] := by rw [h0]; simp [madeCells]
                rw [hrow0] at hfill
                simp [execOp, ho, Instr.buildSlice, run_under hu, run_size hs, h0]
                simp at hfill
                rw [show Array.map (fun (_ : Nat) => (default : Value)) (Array.range 0) = #[] from by simp [Array.range_zero'], hfill]
                simp [newRow]
              · simp [execOp, ho, Instr.buildSlice, run_under hu, run_size hs, hnle, h0, zeroValue, typeInfo, i1, i2]
                rw [hrow]
                simp at hfill
                simp [hfill, newRow]
            · obtain ⟨v, hv1, hv2⟩ := h7.get hb
              exact ⟨v, by simpa using hv1, hv2⟩
          · exact bad_allocs
  · exact bad_allocs

theorem makeSl_a {t : TypeId} {x y : Operand} {X Y : Opd} (ho : o.op = .makeSlice t x y) (hx : c x = some X) (hy : c y = some Y) : AllocsM P o c (cMakeSl P t X Y) := by
  unfold cMakeSl
  split
  · rename_i el hu
    split
    · rename_i inf hi
      split
      · rename_i z hz
        split
        · rename_i hc
          obtain ⟨hpos, hzl⟩ := hc
          intro call ρ env st k A h hA
          simp only [hMakeSl] at h
          obtain ⟨g1, n, hn, h⟩ := p_idx h hA
          obtain ⟨g2, j, hj, h⟩ := p_idx h hA
          obtain ⟨e, h⟩ := p_when h hA
          rw [nand_eq, Bool.and_eq_true, ble_iff, fits_iff] at e
          obtain ⟨e1, e2, e3⟩ := e
          rw [fL_eq] at h
          unfold newCellsK at h
          obtain ⟨g0, h⟩ := p_new h hA
          rw [kSl_eq] at h
          refine ⟨g0, fun f => ⟨8, 0, 0, n, inf.size, Nat.succ j, .ofNat 0, f, []⟩, _, h, fun G a hE => ?_⟩
          obtain ⟨v1, _⟩ := (hE x (by simp [ho, Op.operands]) _ hx).i3 g1
          obtain ⟨v2, _⟩ := (hE y (by simp [ho, Op.operands]) _ hy).i3 g2
          rw [hn] at v1
          rw [hj] at v2
          obtain ⟨inf', zv, i1, i2, i3⟩ := zero_ok hz
          rw [hi] at i1
          cases i1
          have hzv := (i3 G).cells
          have hzlen : zv.cells.size = inf.size := by have := hzv.length; simp at this; omega
          have hmade := made_VRs hzv (by omega) j
          rw [hzl] at hmade
          have hml := hmade.length
          have hms : (madeCells zv.cells (j * inf.size)).size = j * inf.size := size_madeCells _ _
          have hb : (inf.bytes : Int) * (j : Int) ≤ 281474976710656 := by
            have : inf.bytes * j ≤ (2 * j + 1000) * inf.bytes := by rw [Nat.mul_comm]; exact Nat.mul_le_mul_right _ (by omega)
            have h3 : inf.bytes * j ≤ 281474976710656 := by omega
            rw [← Int.natCast_mul]; omega
          have hcl : (repCells z.cells j).length = j * inf.size := by rw [repCells_len, hzl]
          have hnj : n * inf.size ≤ j * inf.size := Nat.mul_le_mul_right _ e1
          refine ⟨.cells (madeCells zv.cells (j * inf.size)) el (0, 0), fun cc => .slice (some ⟨cc, 0, none⟩) n j, (repCells z.cells j).length, j * inf.size, fun w => ?_, .inl ⟨rfl, rfl, rfl, rfl, by omega, _, el, rfl, hms, fun _ => rfl, fun x b hb => ?_⟩,
            fun G' f cc _ hb hs' => .sl _ _ rfl ⟨cc, 0, (repCells z.cells j).length, 0, j, hb, rfl, e1, .inr rfl, hpos, .inr ⟨Nat.le_refl _, rfl, by show 0 + n * inf.size ≤ _; omega, by show 0 + j * inf.size ≤ _; omega⟩⟩⟩
          · have hr := run_make (P := P) w t el inf zv hu hi i2 (kof (X.v ρ env).a) (kof (Y.v ρ env).a) (n : Int) (j : Int) (by omega) (by omega) hb (by omega)
            simp at hr
            simp [execOp, ho, v1, v2]
            rw [hr]
            rfl
          · obtain ⟨v, hv1, hv2⟩ := hmade.get hb
            exact ⟨v, by simpa using hv1, hv2⟩
        · exact bad_allocs
      · exact bad_allocs
    · exact bad_allocs
  · exact bad_allocs

/-- The allocations. -/
def isAlloc (o : Op) : Bool := match o with
  | .alloc _ => true
  | .box _ _ => true
  | .buildSlice _ _ _ => true
  | .makeMap _ _ => true
  | .makeSlice _ _ _ => true
  | _ => false
theorem allocs_ok (o : Oper) (c : Operand → Option Opd) (h : isAlloc o.op = true) : AllocsM P o c (cop P c o.op) := by
  cases ho : o.op with
  | alloc t =>
    show AllocsM P o c (dAlloc t P c)
    unfold dAlloc; split
    · rename_i z hz; split
      · rename_i n hn; split
        · rename_i hl; exact alloc_a ho z n hz hn hl
        · exact bad_allocs
      · exact bad_allocs
    · exact bad_allocs
  | box t x =>
    show AllocsM P o c (dBox t x P c)
    unfold dBox; split
    · rename_i X hX; exact box_a ho hX
    · exact bad_allocs
  | buildSlice t n parts => exact buildSl_a ho
  | makeMap t r =>
    show AllocsM P o c (dMakeMap t r P c)
    unfold dMakeMap; split
    · exact makeMap_a ho
    · exact bad_allocs
  | makeSlice t l k =>
    show AllocsM P o c (dMakeSlice t l k P c)
    unfold dMakeSlice; split
    · rename_i L hL; split
      · rename_i K hK; exact makeSl_a ho hL hK
      · exact bad_allocs
    · exact bad_allocs
  | _ => rw [ho] at h; cases h
end
end Go.Ev
namespace Go.Ev
open Go

section
variable {P : Program} {o : Oper} {c : Operand → Option Opd}
theorem cNil_pp {neg : Bool} {t u : TypeId} {x y : Operand} {X Y : Opd} {d : TypeDesc} {g0 : Nat} {nv : Value} {nx ny : Bool} {m : M} (hd : NilT d g0 nv) (ho : o.op = .binOp (if neg then .neq else .eql) t x y u) (hx : c x = some X) (hy : c y = some Y) (hu : P.underlying t = some d)
    (h1 : nx = true → x = .const nv) (h2 : ny = true → y = .const nv) (hm : PureM P o c m) : PureM P o c (cNil g0 nx ny neg X Y m) := by
  unfold cNil
  split
  · rename_i h
    exact (nilEq_p hd ho hx hu (.inl ⟨rfl, h2 h⟩))
  · split
    · rename_i h
      exact (nilEq_p hd ho hy hu (.inr ⟨rfl, h1 h⟩))
    · exact hm

theorem cEql_pp {neg : Bool} {t u : TypeId} {x y : Operand} {X Y : Opd} (ho : o.op = .binOp (if neg then .neq else .eql) t x y u) (hx : c x = some X) (hy : c y = some Y) : PureM P o c (cEql P neg t x y X Y) := by
  unfold cEql
  split
  · rename_i hu; exact (boolEq_p ho hx hy hu)
  · cases neg
    · exact (cmp_p ho hx hy (.inr (.inr (.inr (.inr (.inl ⟨rfl, rfl⟩))))))
    · exact (cmp_p ho hx hy (.inr (.inr (.inr (.inr (.inr ⟨rfl, rfl⟩))))))
  · cases neg
    · exact (str_p ho hx hy (.inr (.inr (.inr (.inr (.inl ⟨rfl, rfl⟩))))))
    · exact (str_p ho hx hy (.inr (.inr (.inr (.inr (.inr ⟨rfl, rfl⟩))))))
  · rename_i fs hu
    split
    · exact bad_pure
    · rename_i hg
      split
      · rename_i offs hf
        exact (aggEq_p ho hx hy hu (by simpa using hg) hf)
      · exact bad_pure
  · rename_i el hu
    refine cNil_pp (.inl ⟨el, rfl, rfl, rfl⟩) ho hx hy hu nilP nilP ?_
    split
    · rename_i n hs
      split
      · rename_i h0; exact (ptrEq_p ho hx hy hu hs h0)
      · exact bad_pure
    · exact bad_pure
  · rename_i el hu
    exact cNil_pp (.inr (.inl ⟨el, rfl, rfl, rfl⟩)) ho hx hy hu nilS nilS (bad_pure)
  · rename_i kt et hu
    exact cNil_pp (.inr (.inr (.inl ⟨kt, et, rfl, rfl, rfl⟩))) ho hx hy hu nilM nilM (bad_pure)
  · rename_i a b e hu
    exact cNil_pp (.inr (.inr (.inr (.inl ⟨a, b, e, rfl, rfl, rfl⟩)))) ho hx hy hu nilF nilF (bad_pure)
  · rename_i ms hu
    exact cNil_pp (.inr (.inr (.inr (.inr ⟨ms, rfl, rfl, rfl⟩)))) ho hx hy hu nilI nilI (bad_pure)
  · exact bad_pure

theorem cBin_pp {op : BinOp} {t u : TypeId} {x y : Operand} {X Y : Opd} (ho : o.op = .binOp op t x y u) (hx : c x = some X) (hy : c y = some Y) : PureM P o c (cBin P op t x y X Y) := by
  unfold cBin
  split
  · exact cEql_pp (neg := false) ho hx hy
  · exact cEql_pp (neg := true) ho hx hy
  · exact (shl_p ho hx hy)
  · exact (shr_p ho hx hy)
  · exact (intNZ_p ho hx hy fun k a b w h => run_iQuo k a b t w h)
  · exact (intNZ_p ho hx hy fun k a b w h => run_iRem k a b t w h)
  · exact (int_p ho hx hy fun k a b w => run_iSub k a b t w)
  · exact (int_p ho hx hy fun k a b w => run_iMul k a b t w)
  · exact (int_p ho hx hy fun k a b w => run_iAnd k a b t w)
  · exact (int_p ho hx hy fun k a b w => run_iOr k a b t w)
  · exact (int_p ho hx hy fun k a b w => run_iXor k a b t w)
  · exact (int_p ho hx hy fun k a b w => run_iAndNot k a b t w)
  · split
    · exact (cat_p ho hx hy)
    · exact (int_p ho hx hy fun k a b w => run_iAdd k a b t w)
  · split
    · exact (str_p ho hx hy (.inl ⟨rfl, rfl⟩))
    · exact (cmp_p ho hx hy (.inl ⟨rfl, rfl⟩))
  · split
    · exact (str_p ho hx hy (.inr (.inl ⟨rfl, rfl⟩)))
    · exact (cmp_p ho hx hy (.inr (.inl ⟨rfl, rfl⟩)))
  · split
    · exact (str_p ho hx hy (.inr (.inr (.inl ⟨rfl, rfl⟩))))
    · exact (cmp_p ho hx hy (.inr (.inr (.inl ⟨rfl, rfl⟩))))
  · split
    · exact (str_p ho hx hy (.inr (.inr (.inr (.inl ⟨rfl, rfl⟩)))))
    · exact (cmp_p ho hx hy (.inr (.inr (.inr (.inl ⟨rfl, rfl⟩)))))

/-- The kinds: 0 pure, 1 looks, 2 allocates, 3 anything. -/
theorem pure_ok (o : Oper) (c : Operand → Option Opd) (h : kindOf o.op = 0) : PureM P o c (cop P c o.op) := by
  cases ho : o.op with
  | move x =>
    show PureM P o c (dMove x P c)
    unfold dMove; split
    · rename_i X hX; exact move_p (.inl ho) hX
    · exact bad_pure
  | assign x =>
    show PureM P o c (dAssign x P c)
    unfold dAssign; split
    · rename_i X hX; exact move_p (.inr ho) hX
    · exact bad_pure
  | pick q a b =>
    show PureM P o c (dPick q a b P c)
    unfold dPick; split
    · rename_i Q hQ; split
      · rename_i A hA; split
        · rename_i B hB; exact pick_p ho hQ hA hB
        · exact bad_pure
      · exact bad_pure
    · exact bad_pure
  | build t parts => exact build_p ho
  | nilCheck x =>
    show PureM P o c (dNilCheck x P c)
    unfold dNilCheck; split
    · rename_i X hX; exact nilCheck_p ho hX
    · exact bad_pure
  | binOp op t x y u =>
    show PureM P o c (dBinOp op t x y u P c)
    unfold dBinOp; split
    · rename_i X hX; split
      · rename_i Y hY; exact cBin_pp ho hX hY
      · exact bad_pure
    · exact bad_pure
  | unOp op t x =>
    show PureM P o c (dUnOp op t x P c)
    unfold dUnOp; split
    · rename_i X hX
      unfold cUn; split
      · exact neg_p ho hX
      · exact not_p ho hX
      · exact bad_pure
    · exact bad_pure
  | makeInterface t x =>
    show PureM P o c (dMakeInterface t x P c)
    unfold dMakeInterface; split
    · rename_i X hX; split
      · exact bad_pure
      · rename_i d hne hu; exact iface_p ho hX hu fun ms h => hne ms h
      · exact bad_pure
    · exact bad_pure
  | makeFunc fn first cap =>
    show PureM P o c (dMakeFunc fn first cap P c)
    unfold dMakeFunc; split
    · split
      · rename_i us hus; exact makeFunc_p ho hus
      · exact bad_pure
    · exact bad_pure
  | fieldAddr s x f =>
    show PureM P o c (dFieldAddr s x f P c)
    unfold dFieldAddr; split
    · rename_i X hX; exact fieldAddr_p ho hX
    · exact bad_pure
  | field s x f =>
    show PureM P o c (dField s x f P c)
    unfold dField; split
    · rename_i X hX; exact field_p ho hX
    · exact bad_pure
  | indexAddr t x i =>
    show PureM P o c (dIndexAddr t x i P c)
    unfold dIndexAddr; split
    · rename_i X hX; split
      · rename_i I hI; exact indexAddr_p ho hX hI
      · exact bad_pure
    · exact bad_pure
  | index t x i =>
    show PureM P o c (dIndex t x i P c)
    unfold dIndex; split
    · rename_i X hX; split
      · rename_i I hI; exact index_p ho hX hI
      · exact bad_pure
    · exact bad_pure
  | extract x i =>
    show PureM P o c (dExtract x i P c)
    unfold dExtract; split
    · rename_i X hX; exact extract_p ho hX
    · exact bad_pure
  | _ => rw [ho] at h; cases h

theorem looks_ok (o : Oper) (c : Operand → Option Opd) (h : kindOf o.op = 1) : LooksM P o c (cop P c o.op) := by
  cases ho : o.op with
  | load t a =>
    show LooksM P o c (dLoad t a P c)
    unfold dLoad; split
    · rename_i X hX; exact load_l ho hX
    · exact bad_looks
  | lookup t m k ok =>
    show LooksM P o c (dLookup t m k ok P c)
    unfold dLookup; split
    · rename_i M' hM; split
      · rename_i K hK; exact lookup_l ho hM hK
      · exact bad_looks
    · exact bad_looks
  | _ => rw [ho] at h; cases h
end
end Go.Ev
namespace Go.Ev
open Go

section
variable {P : Program} {o : Oper} {c : Operand → Option Opd}
theorem len_p {cl : Call} {X : Operand} {X' : Opd} {t : TypeId} (ho : o.op = .call cl) (hb : cl.callee = .builtin .len) (hargs : cl.args = #[X]) (hty : cl.argTypes[0]? = some t) (hx : c X = some X') (hnm : ∀ k e, P.underlying t ≠ some (.map k e)) : PureM P o c (cLen P t X') := by
  have memX : X ∈ o.op.operands := by simp [ho, Op.operands, Call.operands, hb, hargs]
  have hrun : ∀ (a : Act) (w w' : World) (v : Value), (Builtin.len_ cl.argTypes o.type #[a.eval X]).run P w = .ok v w' → (execOp a.eval o).run P w = .ok (.value v) w' := fun a w w' v hv => by
    refine run_builtin ho hb a w _ ?_
    simp [builtin, hargs, hv]
  unfold cLen
  split
  · rename_i hu
    intro call ρ env st k A h hA
    simp only [hLenStr] at h
    obtain ⟨g, h⟩ := p_str h hA
    rw [kNat_eq] at h
    refine ⟨_, h, fun G a hE => ⟨Go.goInt (X'.v ρ env).a, fun w => hrun a w w _ ?_, VR.goInt _ _⟩⟩
    obtain ⟨s, hs, q1, _⟩ := (hE X memX _ hx).i4 g
    simp [Builtin.len_, hty, run_under hu, hs, q1]
  · rename_i n el hu
    intro call ρ env st k A h hA
    refine ⟨_, h, fun G a hE => ⟨Go.goInt n, fun w => hrun a w w _ ?_, VR.goInt _ _⟩⟩
    simp [Builtin.len_, hty, run_under hu]
  · rename_i el hu
    intro call ρ env st k A h hA
    simp only [hLenSl] at h
    rcases p_sl h hA with ⟨g, h⟩ | ⟨g, h⟩
    · rw [kNat_eq] at h
      refine ⟨_, h, fun G a hE => ⟨Go.goInt (X'.v ρ env).c, fun w => hrun a w w _ ?_, VR.goInt _ _⟩⟩
      obtain ⟨cc, off, en, p, q, b1, b2, b3⟩ := (hE X memX _ hx).i8 g
      simp [Builtin.len_, hty, run_under hu, b2]
    · rw [kNat_eq] at h
      refine ⟨_, h, fun G a hE => ⟨Go.goInt 0, fun w => hrun a w w _ ?_, VR.goInt _ _⟩⟩
      have := (hE X memX _ hx).i7 g
      simp [Builtin.len_, hty, run_under hu, this]
  · rename_i kt et hu
    exact absurd hu (hnm kt et)
  · exact bad_pure

theorem cap_p {cl : Call} {X : Operand} {X' : Opd} {t : TypeId} (ho : o.op = .call cl) (hb : cl.callee = .builtin .cap) (hargs : cl.args = #[X]) (hty : cl.argTypes[0]? = some t) (hx : c X = some X') : PureM P o c (cCap P t X') := by
  have memX : X ∈ o.op.operands := by simp [ho, Op.operands, Call.operands, hb, hargs]
  have hrun : ∀ (a : Act) (w w' : World) (v : Value), (Builtin.cap_ cl.argTypes o.type #[a.eval X]).run P w = .ok v w' → (execOp a.eval o).run P w = .ok (.value v) w' := fun a w w' v hv => by
    refine run_builtin ho hb a w _ ?_
    simp [builtin, hargs, hv]
  unfold cCap
  split
  · rename_i el hu
    intro call ρ env st k A h hA
    simp only [hCap] at h
    rcases p_sl h hA with ⟨g, h⟩ | ⟨g, h⟩
    · obtain ⟨e, h⟩ := p_when h hA
      rw [kNat_eq] at h
      refine ⟨_, h, fun G a hE => ⟨Go.goInt (Nat.pred (X'.v ρ env).k), fun w => hrun a w w _ ?_, VR.goInt _ _⟩⟩
      obtain ⟨cc, off, en, p, q, b1, b2, b3, b4, b5⟩ := (hE X memX _ hx).i8 g
      have hk : (X'.v ρ env).k ≠ 0 := fun z => by rw [z] at e; cases e
      have : q = (X'.v ρ env).k.pred := by
        rcases b4 with b4 | b4
        · exact absurd b4 hk
        · rw [b4]; rfl
      simp [Builtin.cap_, hty, run_under hu, b2, this]
    · rw [kNat_eq] at h
      refine ⟨_, h, fun G a hE => ⟨Go.goInt 0, fun w => hrun a w w _ ?_, VR.goInt _ _⟩⟩
      have := (hE X memX _ hx).i7 g
      simp [Builtin.cap_, hty, run_under hu, this]
  · exact bad_pure
end
end Go.Ev
namespace Go.Ev
open Go

section
variable {P : Program} {o : Oper} {c : Operand → Option Opd}
theorem cSlice_pp {t : TypeId} {x : Operand} {lo hi mx : Option Operand} {X : Opd} {L H M' : Option Opd} (ho : o.op = .slice t x lo hi mx) (hx : c x = some X) (hl : cOptW c lo = some L) (hh : cOptW c hi = some H) (hm : cOptW c mx = some M') (hna : ∀ n e, P.underlying t ≠ some (.array n e)) : PureM P o c (cSlice P t X L H M') := by
  have none_of : ∀ {y : Option Operand}, cOptW c y = some none → y = none := fun {y} h => by
    cases y with
    | none => rfl
    | some y => simp only [cOptW] at h; split at h <;> cases h
  have some_of : ∀ {y : Option Operand} {Y : Opd}, cOptW c y = some (some Y) → ∃ y', y = some y' ∧ c y' = some Y := fun {y Y} h => by
    cases y with
    | none => cases h
    | some y =>
      simp only [cOptW] at h
      split at h
      · rename_i z hz; cases h; exact ⟨y, rfl, hz⟩
      · cases h
  unfold cSlice
  split
  · rename_i hu
    split
    · obtain rfl := none_of hm
      exact (sliceStr_p ho hu hx hl hh)
    · exact bad_pure
  · rename_i el hu
    split
    · exact bad_pure
    · rename_i e hs
      split
      · obtain rfl := none_of hm
        exact (sliceSl_p ho hu hs hx hl hh)
      · obtain ⟨m', rfl, hm'⟩ := some_of hm
        split
        · obtain ⟨h', rfl, hh'⟩ := some_of hh
          exact (sliceSl3_p ho hu hs hx hl hh' hm')
        · exact bad_pure
  · rename_i n el hu
    exact absurd hu (hna n el)
  · exact bad_pure

theorem cSlice_ll {t : TypeId} {x : Operand} {lo hi mx : Option Operand} {X : Opd} {L H M' : Option Opd} (ho : o.op = .slice t x lo hi mx) (hx : c x = some X) (hl : cOptW c lo = some L) (hh : cOptW c hi = some H) (hm : cOptW c mx = some M') : LooksM P o c (cSlice P t X L H M') := by
  have none_of : ∀ {y : Option Operand}, cOptW c y = some none → y = none := fun {y} h => by
    cases y with
    | none => rfl
    | some y => simp only [cOptW] at h; split at h <;> cases h
  have some_of : ∀ {y : Option Operand} {Y : Opd}, cOptW c y = some (some Y) → ∃ y', y = some y' ∧ c y' = some Y := fun {y Y} h => by
    cases y with
    | none => cases h
    | some y =>
      simp only [cOptW] at h
      split at h
      · rename_i z hz; cases h; exact ⟨y, rfl, hz⟩
      · cases h
  unfold cSlice
  split
  · rename_i hu
    split
    · obtain rfl := none_of hm
      exact (sliceStr_p ho hu hx hl hh).looks
    · exact bad_looks
  · rename_i el hu
    split
    · exact bad_looks
    · rename_i e hs
      split
      · obtain rfl := none_of hm
        exact (sliceSl_p ho hu hs hx hl hh).looks
      · obtain ⟨m', rfl, hm'⟩ := some_of hm
        split
        · obtain ⟨h', rfl, hh'⟩ := some_of hh
          exact (sliceSl3_p ho hu hs hx hl hh' hm').looks
        · exact bad_looks
  · rename_i n el hu
    split
    · obtain rfl := none_of hm
      split
      · rename_i e hs
        split
        · rename_i he; exact (sliceArr_l ho hu hs he hx hl hh)
        · exact bad_looks
      · exact bad_looks
    · exact bad_looks
  · exact bad_looks

end
end Go.Ev
namespace Go.Ev
open Go

section
variable {P : Program} {o : Oper} {c : Operand → Option Opd}

theorem conv_pp {src dst : TypeId} {x : Operand} {X : Opd} (ho : o.op = .convert src dst x) (hx : c x = some X) (hk : convKind P src dst = 0) : PureM P o c (cConv P src dst X) := by
  unfold convKind at hk
  unfold cConv
  split
  · exact bad_pure
  · rename_i s hs
    split
    · rename_i k hd; exact convInt_p ho hx hs hd
    · rename_i hd
      rw [hd] at hk
      split
      · rename_i el
        rw [hs] at hk; cases hk
      · rename_i hns
        exact convStr_p ho hx hs hd fun e h => hns e h
    · rename_i el hd; rw [hd] at hk; cases hk
    · rename_i hd; rw [hd] at hk; cases hk
    · rename_i u hd; rw [hd] at hk; cases hk
    · exact bad_pure
theorem conv_ll {src dst : TypeId} {x : Operand} {X : Opd} (ho : o.op = .convert src dst x) (hx : c x = some X) (hk : convKind P src dst = 1) : LooksM P o c (cConv P src dst X) := by
  unfold convKind at hk
  unfold cConv
  split
  · exact bad_looks
  · rename_i s hs
    split
    · rename_i k hd; exact (convInt_p ho hx hs hd).looks
    · rename_i hd
      split
      · rename_i el
        split
        · rename_i he; exact bytesStr_l ho hx hs he hd
        · exact bad_looks
      · rename_i hns
        exact (convStr_p ho hx hs hd fun e h => hns e h).looks
    · rename_i el hd; rw [hd] at hk; cases hk
    · rename_i hd
      split
      · rename_i t
        split
        · rename_i n hn
          split
          · rename_i h0; exact toUnsafe_l ho hx hs hn h0 hd
          · exact bad_looks
        · exact bad_looks
      · exact bad_looks
    · rename_i u hd
      split
      · split
        · rename_i n hn
          split
          · rename_i h0; exact ofUnsafe_l ho hx hs hn h0 hd
          · exact bad_looks
        · exact bad_looks
      · exact bad_looks
    · exact bad_looks

theorem call_pp {cl : Call} (ho : o.op = .call cl) (hk : callKind P cl = 0) : PureM P o c (dCall cl P c) := by
  unfold dCall
  split
  · rename_i xs hargs
    unfold cCall
    unfold callKind at hk
    split
    · rename_i f hf; rw [hf] at hk; cases hk
    · rename_i hf; rw [hf] at hk; cases hk
    · rename_i b hb
      rw [hb] at hk
      split
      · exact bad_pure
      · rename_i t ht
        split
        · cases hk
        · cases hk
        · split
          · obtain ⟨x, hl, h1⟩ := opnds_one hargs
            refine len_p ho hb (arr_of hl) ht h1 fun k e hm => ?_
            simp only [ht, hm] at hk
            cases hk
          · exact bad_pure
        · split
          · obtain ⟨x, hl, h1⟩ := opnds_one hargs
            exact cap_p ho hb (arr_of hl) ht h1
          · exact bad_pure
        · exact mm_p ho hb (.inl rfl) hargs
        · exact mm_p ho hb (.inr rfl) hargs
        · cases hk
        · cases hk
        · split
          · obtain ⟨x, hl, h1⟩ := opnds_one hargs
            exact sliceData_p ho hb (arr_of hl) h1
          · exact bad_pure
        · cases hk
        · exact bad_pure
  · exact bad_pure
theorem call_ll {cl : Call} (ho : o.op = .call cl) (hk : callKind P cl = 1) : LooksM P o c (dCall cl P c) := by
  unfold dCall
  split
  · rename_i xs hargs
    unfold cCall
    unfold callKind at hk
    split
    · rename_i f hf; rw [hf] at hk; cases hk
    · rename_i hf; rw [hf] at hk; cases hk
    · rename_i b hb
      rw [hb] at hk
      split
      · exact bad_looks
      · rename_i t ht
        split
        · cases hk
        · cases hk
        · split
          · obtain ⟨x, hl, h1⟩ := opnds_one hargs
            exact len_l ho hb (arr_of hl) ht h1
          · exact bad_looks
        · cases hk
        · cases hk
        · cases hk
        · cases hk
        · cases hk
        · cases hk
        · cases hk
        · exact bad_looks
  · exact bad_looks

theorem kindP_other {o : Op} (h1 : ∀ t x l k m, o ≠ .slice t x l k m) (h2 : ∀ s d x, o ≠ .convert s d x) (h3 : ∀ cl, o ≠ .call cl) : kindP P o = kindOf o := by
  cases o <;> first
    | rfl
    | exact absurd rfl (h1 _ _ _ _ _)
    | exact absurd rfl (h2 _ _ _)
    | exact absurd rfl (h3 _)

theorem pureP_ok (o : Oper) (c : Operand → Option Opd) (h : kindP P o.op = 0) : PureM P o c (cop P c o.op) := by
  cases ho : o.op with
  | slice t x lo hi mx =>
    rw [ho] at h
    show PureM P o c (dSlice t x lo hi mx P c)
    unfold dSlice; split
    · rename_i X hX; split
      · rename_i L hL; split
        · rename_i H hH; split
          · rename_i M' hM
            refine cSlice_pp ho hX hL hH hM fun n e hu => ?_
            have h : sliceKind P t = 0 := h
            unfold sliceKind at h
            rw [hu] at h; cases h
          · exact bad_pure
        · exact bad_pure
      · exact bad_pure
    · exact bad_pure
  | convert s d x =>
    rw [ho] at h
    show PureM P o c (dConvert s d x P c)
    unfold dConvert; split
    · rename_i X hX; exact conv_pp ho hX h
    · exact bad_pure
  | call cl =>
    rw [ho] at h
    exact call_pp ho h
  | _ =>
    have hk : kindOf o.op = 0 := by
      rw [← kindP_other (P := P) (o := o.op) (by rw [ho]; simp) (by rw [ho]; simp) (by rw [ho]; simp)]; exact h
    have := pure_ok (P := P) o c hk
    rw [ho] at this
    exact this

theorem looksP_ok (o : Oper) (c : Operand → Option Opd) (h : kindP P o.op = 1) : LooksM P o c (cop P c o.op) := by
  cases ho : o.op with
  | slice t x lo hi mx =>
    show LooksM P o c (dSlice t x lo hi mx P c)
    unfold dSlice; split
    · rename_i X hX; split
      · rename_i L hL; split
        · rename_i H hH; split
          · rename_i M' hM; exact cSlice_ll ho hX hL hH hM
          · exact bad_looks
        · exact bad_looks
      · exact bad_looks
    · exact bad_looks
  | convert s d x =>
    rw [ho] at h
    show LooksM P o c (dConvert s d x P c)
    unfold dConvert; split
    · rename_i X hX; exact conv_ll ho hX h
    · exact bad_looks
  | call cl =>
    rw [ho] at h
    exact call_ll ho h
  | _ =>
    have hk : kindOf o.op = 1 := by
      rw [← kindP_other (P := P) (o := o.op) (by rw [ho]; simp) (by rw [ho]; simp) (by rw [ho]; simp)]; exact h
    have := looks_ok (P := P) o c hk
    rw [ho] at this
    exact this
theorem allocsP_ok (o : Oper) (c : Operand → Option Opd) (h : kindP P o.op = 2) : AllocsM P o c (cop P c o.op) := by
  refine allocs_ok o c ?_
  cases ho : o.op <;> rw [ho] at h <;> first
    | rfl
    | (cases h; done)
    | (exfalso; revert h; show ¬ (sliceKind P _ = 2); unfold sliceKind; split <;> simp; done)
    | (exfalso; revert h; show ¬ (convKind P _ _ = 2); unfold convKind; repeat' split
       all_goals (simp; done))
    | (exfalso; revert h; show ¬ (callKind P _ = 2); unfold callKind; repeat' split
       all_goals (simp; done))
end
end Go.Ev
