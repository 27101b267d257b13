/- The evaluator's operations are sound. Conditions: each theorem's own. -/
import Derived.Test.YtkgdchbflocblaaGreatDoorEvB
import Derived.Laws.Slices
import Derived.Maps.Range
import Derived.Laws.MakeOwn
import Derived.Laws.Cover1
import Derived.Laws.Concat
import Derived.Lib.UnsafeStr
import Derived.Laws.BytesString
import Derived.Laws.StructEq
set_option linter.unusedVariables false
namespace Go.Ev
open Go

section
variable {P : Program} {o : Oper} {c : Operand → Option Opd}

theorem VR.goInt (G : Gh) (n : Nat) : VR G ⟨3, 3, 0, 0, 0, 0, .ofNat n, [], []⟩ (Go.goInt n) := VR.mkInt .i64 _ _ rfl rfl rfl

theorem len_l {cl : Call} {X : Operand} {X' : Opd} {t : TypeId} (ho : o.op = .call cl) (hb : cl.callee = .builtin .len) (hargs : cl.args = #[X]) (hty : cl.argTypes[0]? = some t) (hx : c X = some X') : LooksM P o c (cLen P t X') := by
  have memX : X ∈ o.op.operands := by simp [ho, Op.operands, Call.operands, hb, hargs]
  have hrun : ∀ (a : Act) (w w' : World) (v : Value), (Builtin.len_ cl.argTypes o.type #[a.eval X]).run P w = .ok v w' → (execOp a.eval o).run P w = .ok (.value v) w' := fun a w w' v hv => by
    refine run_builtin ho hb a w _ ?_
    simp [builtin, hargs, hv]
  unfold cLen
  split
  · rename_i hu
    intro call ρ env st k A h hA
    simp only [hLenStr] at h
    obtain ⟨g, h⟩ := p_str h hA
    rw [kNat_eq] at h
    refine ⟨_, h, fun G w a hE hR => ⟨Go.goInt (X'.v ρ env).a, hrun a w w _ ?_, VR.goInt _ _⟩⟩
    obtain ⟨s, hs, q1, _⟩ := (hE X memX _ hx).i4 g
    simp [Builtin.len_, hty, run_under hu, hs, q1]
  · rename_i n el hu
    intro call ρ env st k A h hA
    refine ⟨_, h, fun G w a hE hR => ⟨Go.goInt n, hrun a w w _ ?_, VR.goInt _ _⟩⟩
    simp [Builtin.len_, hty, run_under hu]
  · rename_i el hu
    intro call ρ env st k A h hA
    simp only [hLenSl] at h
    rcases p_sl h hA with ⟨g, h⟩ | ⟨g, h⟩
    · rw [kNat_eq] at h
      refine ⟨_, h, fun G w a hE hR => ⟨Go.goInt (X'.v ρ env).c, hrun a w w _ ?_, VR.goInt _ _⟩⟩
      obtain ⟨cc, off, en, p, q, b1, b2, b3⟩ := (hE X memX _ hx).i8 g
      simp [Builtin.len_, hty, run_under hu, b2]
    · rw [kNat_eq] at h
      refine ⟨_, h, fun G w a hE hR => ⟨Go.goInt 0, hrun a w w _ ?_, VR.goInt _ _⟩⟩
      have := (hE X memX _ hx).i7 g
      simp [Builtin.len_, hty, run_under hu, this]
  · rename_i kt et hu
    intro call ρ env st k A h hA
    simp only [hLenMap] at h
    rcases p_map h hA with ⟨g, h⟩ | ⟨g, h⟩
    · obtain ⟨⟨g2, _⟩, h⟩ := p_mapO h hA
      rw [kNat_eq, lenL_eq, Nat.add_zero] at h
      refine ⟨_, h, fun G w a hE hR => ⟨Go.goInt (st.h (X'.v ρ env).f).es.length, hrun a w w _ ?_, VR.goInt _ _⟩⟩
      obtain ⟨cc, off, en, b1, b2⟩ := (hE X memX _ hx).i10 g
      obtain ⟨c', es, k1, k2, k3⟩ := (hR.obj _).2.1 g2
      rw [b2] at k1
      cases k1
      have hl := k3.length
      simp [Builtin.len_, hty, run_under hu, b1, MapKept.run_getObj_map k2, hl]
    · rw [kNat_eq] at h
      refine ⟨_, h, fun G w a hE hR => ⟨Go.goInt 0, hrun a w w _ ?_, VR.goInt _ _⟩⟩
      have := (hE X memX _ hx).i9 g
      simp [Builtin.len_, hty, run_under hu, this]
  · exact bad_looks

theorem cap_l {cl : Call} {X : Operand} {X' : Opd} {t : TypeId} (ho : o.op = .call cl) (hb : cl.callee = .builtin .cap) (hargs : cl.args = #[X]) (hty : cl.argTypes[0]? = some t) (hx : c X = some X') : LooksM P o c (cCap P t X') := by
  have memX : X ∈ o.op.operands := by simp [ho, Op.operands, Call.operands, hb, hargs]
  have hrun : ∀ (a : Act) (w w' : World) (v : Value), (Builtin.cap_ cl.argTypes o.type #[a.eval X]).run P w = .ok v w' → (execOp a.eval o).run P w = .ok (.value v) w' := fun a w w' v hv => by
    refine run_builtin ho hb a w _ ?_
    simp [builtin, hargs, hv]
  unfold cCap
  split
  · rename_i el hu
    intro call ρ env st k A h hA
    simp only [hCap] at h
    rcases p_sl h hA with ⟨g, h⟩ | ⟨g, h⟩
    · obtain ⟨e, h⟩ := p_when h hA
      rw [kNat_eq] at h
      refine ⟨_, h, fun G w a hE hR => ⟨Go.goInt (Nat.pred (X'.v ρ env).k), hrun a w w _ ?_, VR.goInt _ _⟩⟩
      obtain ⟨cc, off, en, p, q, b1, b2, b3, b4, b5⟩ := (hE X memX _ hx).i8 g
      have hk : (X'.v ρ env).k ≠ 0 := fun z => by rw [z] at e; cases e
      have : q = (X'.v ρ env).k.pred := by
        rcases b4 with b4 | b4
        · exact absurd b4 hk
        · rw [b4]; rfl
      simp [Builtin.cap_, hty, run_under hu, b2, this]
    · rw [kNat_eq] at h
      refine ⟨_, h, fun G w a hE hR => ⟨Go.goInt 0, hrun a w w _ ?_, VR.goInt _ _⟩⟩
      have := (hE X memX _ hx).i7 g
      simp [Builtin.cap_, hty, run_under hu, this]
  · exact bad_looks

theorem extract_p {x : Operand} {X : Opd} {i : Nat} (ho : o.op = .extract x i) (hx : c x = some X) : PureM P o c (hExtract X i) := fun call ρ env st k A h hA => by
  simp only [hExtract] at h
  obtain ⟨g, h⟩ := p_tup h hA
  obtain ⟨e, h⟩ := p_drop h hA
  obtain ⟨r, rs, e2, h⟩ := p_list h hA
  refine ⟨_, h, fun G a hE => ?_⟩
  obtain ⟨vs, b1, b2⟩ := (hE x (by simp [ho, Op.operands]) _ hx).i0 g
  have hget : (X.v ρ env).l[i]? = some r := by
    have : ((X.v ρ env).l.drop i)[0]? = some r := by rw [e2]; rfl
    rwa [List.getElem?_drop, Nat.add_zero] at this
  obtain ⟨v, hv, hr⟩ := b2.get hget
  have hv' : vs[i]? = some v := by simpa using hv
  exact ⟨v, fun w => by simp [execOp, ho, b1, Instr.extract, hv'], hr⟩

theorem field_p {s : TypeId} {x : Operand} {X : Opd} {fl : Nat} (ho : o.op = .field s x fl) (hx : c x = some X) : PureM P o c (cField P s X fl) := by
  unfold cField
  split
  · rename_i fields hu
    split
    · rename_i fd hf
      split
      · rename_i ha
        split
        · rename_i n hs
          intro call ρ env st k A h hA
          simp only [hPartA] at h
          obtain ⟨g, h⟩ := p_agg h hA
          obtain ⟨e1, h⟩ := p_drop h hA
          obtain ⟨e2, h⟩ := p_take h hA
          refine ⟨_, h, fun G a hE => ?_⟩
          obtain ⟨cs, b1, b2⟩ := (hE x (by simp [ho, Op.operands]) _ hx).i1 g
          have hl := b2.length
          have hl' : (X.v ρ env).l.length = cs.size := by simpa using hl
          rw [List.length_drop] at e2
          refine ⟨.agg (cs.extract fd.offset (fd.offset + n)), fun w => ?_, .agg _ _ rfl ?_⟩
          · simp [execOp, ho, b1, Instr.field, run_under hu, hf, asAgg, part, run_isAgg ha, run_size hs]
          · have := (b2.drop fd.offset).take n
            have e : (cs.extract fd.offset (fd.offset + n)).toList = (cs.toList.drop fd.offset).take n := by simp [Array.toList_extract]
            rw [e]; exact this
        · exact bad_pure
      · rename_i ha
        intro call ρ env st k A h hA
        simp only [hPart1] at h
        obtain ⟨g, h⟩ := p_agg h hA
        obtain ⟨e, h⟩ := p_drop h hA
        obtain ⟨r, rs, e2, h⟩ := p_list h hA
        refine ⟨_, h, fun G a hE => ?_⟩
        obtain ⟨cs, b1, b2⟩ := (hE x (by simp [ho, Op.operands]) _ hx).i1 g
        have hget : (X.v ρ env).l[fd.offset]? = some r := by
          have : ((X.v ρ env).l.drop fd.offset)[0]? = some r := by rw [e2]; rfl
          rwa [List.getElem?_drop, Nat.add_zero] at this
        obtain ⟨v, hv, hr⟩ := b2.get hget
        have hv' : cs[fd.offset]? = some v := by simpa using hv
        exact ⟨v, fun w => by simp [execOp, ho, b1, Instr.field, run_under hu, hf, asAgg, part, run_isAgg ha, hv'], hr⟩
      · exact bad_pure
    · exact bad_pure
  · exact bad_pure
end
end Go.Ev
namespace Go.Ev
open Go

section
variable {P : Program} {o : Oper} {c : Operand → Option Opd}

/-- One bound. -/
theorem bound_ok {d : Nat} {ρ : List AV} {env : Env} {x : Option Operand} {X : Option Opd} {k : Nat → Ans} {A : Ans} (hx : cOptW c x = some X) (h : boundK d ρ env X k = A) (hA : A ≠ .bad) :
    ∃ n, k n = A ∧ ((x = none ∧ n = d) ∨ ∃ y Y, x = some y ∧ c y = some Y ∧ ∀ (G : Gh) (v : Value), VR G (Y.v ρ env) v → ∃ j, v = .int j n) := by
  unfold cOptW at hx
  split at hx
  · cases hx
    exact ⟨d, h, .inl ⟨rfl, rfl⟩⟩
  · rename_i y
    split at hx
    · rename_i Y hY
      cases hx
      have h' : (Y.v ρ env).idxK k = A := h
      obtain ⟨g, n, hn, h'⟩ := p_idx h' hA
      refine ⟨n, h', .inr ⟨y, Y, rfl, hY, fun G v hv => ?_⟩⟩
      obtain ⟨v1, _⟩ := hv.i3 g
      exact ⟨_, by rw [v1, hn]; rfl⟩
    · cases hx

/-- What a bound evaluates to. -/
def BOK (a : Act) (x : Option Operand) (d n : Nat) : Prop := (x = none ∧ n = d) ∨ ∃ j, x.map a.eval = some (.int j n)
theorem BOK.low {a : Act} {x : Option Operand} {n : Nat} (h : BOK a x 0 n) : (x.map a.eval = none ∧ n = 0) ∨ ∃ j, x.map a.eval = some (.int j n) := by
  rcases h with ⟨h1, h2⟩ | h
  · exact .inl ⟨by rw [h1]; rfl, h2⟩
  · exact .inr h

theorem run_bounds (isSlice : Bool) (len cap l h : Nat) (lo hi : Option Value) (w : World) (hl : (lo = none ∧ l = 0) ∨ ∃ j, lo = some (.int j l)) (hh : (hi = none ∧ h = len) ∨ ∃ j, hi = some (.int j h)) (h1 : l ≤ h) (h2 : h ≤ cap) :
    (Instr.sliceBounds isSlice len cap lo hi none).run P w = .ok (l, h, cap) w := by
  have e1 : (0 : Int) ≤ l := by omega
  have e2 : (0 : Int) ≤ h := by omega
  have e3 : (l : Int) ≤ h := by omega
  have e4 : (h : Int) ≤ cap := by omega
  rcases hl with ⟨rfl, rfl⟩ | ⟨j, rfl⟩ <;> rcases hh with ⟨rfl, rfl⟩ | ⟨j', rfl⟩ <;> simp [Instr.sliceBounds, Instr.sliceBound, asIntOf, h1, h2]

theorem run_bounds3 (isSlice : Bool) (len cap l h m : Nat) (lo hi mx : Value) (w : World) (hl : lo = .int .i64 l ∨ ∃ j, lo = .int j l) (hh : ∃ j, hi = .int j h) (hm : ∃ j, mx = .int j m) (h1 : l ≤ h) (h2 : h ≤ m) (h3 : m ≤ cap) :
    (Instr.sliceBounds isSlice len cap (some lo) (some hi) (some mx)).run P w = .ok (l, h, m) w ∧ (l = 0 → (Instr.sliceBounds isSlice len cap none (some hi) (some mx)).run P w = .ok (l, h, m) w) := by
  obtain ⟨j', rfl⟩ := hh
  obtain ⟨j'', rfl⟩ := hm
  obtain ⟨j, rfl⟩ : ∃ j, lo = .int j l := by
    rcases hl with h | h
    · exact ⟨_, h⟩
    · exact h
  refine ⟨by simp [Instr.sliceBounds, Instr.sliceBound, asIntOf, h1, h2, h3], fun h0 => ?_⟩
  subst h0
  simp [Instr.sliceBounds, Instr.sliceBound, asIntOf, h2, h3]

/-- A part of a slice is a slice. -/
theorem SlOK.cut {G : Gh} {f : Id} {m o n e k : Nat} {cc p q l h r kk : Nat} (hs : ∃ off en, G.β f m = some (cc, off, en) ∧ n ≤ q ∧ 0 < e ∧ (q = 0 ∨ (off ≤ o ∧ p = o - off ∧ o + n * e ≤ en ∧ p + q * e ≤ G.sz cc)))
    (hl : l ≤ h) (hh : h ≤ n) (hr : h ≤ r) (hrq : r ≤ q) (hk : kk = 0 ∨ kk = r - l + 1) :
    SlOK G f m (o + l * e) (h - l) e kk (.slice (if r = l then some ⟨cc, p, none⟩ else some ⟨cc, p + l * e, none⟩) (h - l) (r - l)) := by
  obtain ⟨off, en, b1, b2, b3, b4⟩ := hs
  by_cases hrl : r = l
  · rw [if_pos hrl]
    exact ⟨cc, off, en, p, r - l, b1, rfl, by omega, hk, b3, .inl (by omega)⟩
  · rw [if_neg hrl]
    rcases b4 with b4 | ⟨c1, c2, c3, c4⟩
    · omega
    · have e1 : (h - l) * e + l * e = h * e := by rw [← Nat.add_mul]; congr 1; omega
      have e2 : (r - l) * e + l * e = r * e := by rw [← Nat.add_mul]; congr 1; omega
      have e3 : h * e ≤ n * e := Nat.mul_le_mul_right _ hh
      have e4 : r * e ≤ q * e := Nat.mul_le_mul_right _ hrq
      exact ⟨cc, off, en, p + l * e, r - l, b1, rfl, by omega, hk, b3, .inr ⟨by omega, by omega, by omega, by omega⟩⟩

theorem exec_slice {t : TypeId} {x : Operand} {lo hi mx : Option Operand} (ho : o.op = .slice t x lo hi mx) (a : Act) (w w' : World) (v : Value)
    (h : (Instr.sliceAt t (a.eval x) (lo.map a.eval) (hi.map a.eval) (mx.map a.eval)).run P w = .ok v w') : (execOp a.eval o).run P w = .ok (.value v) w' := by
  simp [execOp, ho, h]

theorem mem_slice {t : TypeId} {x : Operand} {lo hi mx : Option Operand} (ho : o.op = .slice t x lo hi mx) (y : Operand) (h : y = x ∨ lo = some y ∨ hi = some y ∨ mx = some y) : y ∈ o.op.operands := by
  rw [ho]
  rcases h with rfl | rfl | rfl | rfl <;> simp [Op.operands]

theorem bok {ρ : List AV} {env : Env} {d n : Nat} {x : Option Operand} {G : Gh} {a : Act} (h : (x = none ∧ n = d) ∨ ∃ y Y, x = some y ∧ c y = some Y ∧ ∀ (G : Gh) (v : Value), VR G (Y.v ρ env) v → ∃ j, v = .int j n)
    (hm : ∀ y, x = some y → y ∈ o.op.operands) (hE : EnvOK G c ρ env a o.op.operands) : (x.map a.eval = none ∧ n = d) ∨ ∃ j, x.map a.eval = some (.int j n) := by
  rcases h with ⟨rfl, h⟩ | ⟨y, Y, rfl, h2, h3⟩
  · exact .inl ⟨rfl, h⟩
  · obtain ⟨j, hj⟩ := h3 G _ (hE y (hm y rfl) _ h2)
    exact .inr ⟨j, by simp [hj]⟩

theorem sliceSl_p {t el : TypeId} {e : Nat} {x : Operand} {lo hi : Option Operand} {X : Opd} {L H : Option Opd} (ho : o.op = .slice t x lo hi none) (hu : P.underlying t = some (.slice el)) (hs : sizeOf? P el = some e) (hx : c x = some X) (hl : cOptW c lo = some L) (hh : cOptW c hi = some H) :
    PureM P o c (hSliceSl e X L H) := fun call ρ env st k A h hA => by
  simp only [hSliceSl] at h
  have memx := mem_slice ho x (.inl rfl)
  have memlo : ∀ y, lo = some y → y ∈ o.op.operands := fun y hy => mem_slice ho y (.inr (.inl hy))
  have memhi : ∀ y, hi = some y → y ∈ o.op.operands := fun y hy => mem_slice ho y (.inr (.inr (.inl hy)))
  have hrun : ∀ (a : Act) (w : World) (b : Option Addr) (n q l h : Nat), a.eval x = .slice b n q → ((lo.map a.eval = none ∧ l = 0) ∨ ∃ j, lo.map a.eval = some (.int j l)) → ((hi.map a.eval = none ∧ h = n) ∨ ∃ j, hi.map a.eval = some (.int j h)) → l ≤ h → h ≤ q →
      (execOp a.eval o).run P w = .ok (.value (.slice (if q = l then b else b.map (·.add (l * e))) (h - l) (q - l))) w := fun a w b n q l h hv h1 h2 h3 h4 => by
    refine exec_slice ho a w w _ ?_
    have := run_bounds (P := P) true n q l h _ _ w h1 h2 h3 h4
    rw [hv]
    simp only [Instr.sliceAt, Instr.slice, run_under hu, Sem.run_bind, Result.andThen_ok, Option.map_none, this, run_size hs, Sem.run_pure]
  rcases p_sl h hA with ⟨g, h⟩ | ⟨g, h⟩
  · obtain ⟨l, h, b1⟩ := bound_ok hl h hA
    obtain ⟨hh', h, b2⟩ := bound_ok hh h hA
    obtain ⟨e1, h⟩ := p_when h hA
    rw [nand_eq, nand_eq, Bool.and_eq_true, Bool.and_eq_true, beq_iff, ble_iff, ble_iff] at e1
    obtain ⟨e0, e1, e2⟩ := e1
    rw [kSl_eq] at h
    refine ⟨_, h, fun G a hE => ?_⟩
    obtain ⟨cc, off, en, p, q, k1, k2, k3, k4, k5, k6⟩ := (hE x memx _ hx).i8 g
    rw [← e0] at k5 k6
    have hr := fun w => hrun a w _ _ _ l hh' k2 (bok b1 memlo hE) (bok b2 memhi hE) e1 (by omega)
    refine ⟨_, hr, .sl _ _ rfl ?_⟩
    have := SlOK.cut (G := G) (f := (X.v ρ env).f) (m := (X.v ρ env).a) (o := (X.v ρ env).b) (n := (X.v ρ env).c) (e := e) (k := 0) (cc := cc) (p := p) (q := q) (l := l) (h := hh') (r := q) (kk := subO (X.v ρ env).k l) ⟨off, en, k1, k3, k5, k6⟩ e1 e2 (by omega) (Nat.le_refl _) ?_
    · simp only [Option.map_some, add_lit]
      exact this
    · unfold subO
      rcases k4 with k4 | k4
      · left; rw [k4]; rfl
      · right
        rw [k4]
        show q + 1 - l = _
        omega
  · obtain ⟨l, h, b1⟩ := bound_ok hl h hA
    obtain ⟨hh', h, b2⟩ := bound_ok hh h hA
    obtain ⟨e1, h⟩ := p_when h hA
    rw [nand_eq, Bool.and_eq_true, beq_iff, beq_iff] at e1
    obtain ⟨rfl, rfl⟩ := e1
    refine ⟨_, h, fun G a hE => ?_⟩
    have hr := fun w => hrun a w _ _ _ 0 0 ((hE x memx _ hx).i7 g) (bok b1 memlo hE) (bok b2 memhi hE) (Nat.le_refl _) (Nat.le_refl _)
    exact ⟨_, hr, .nils _ rfl⟩

theorem sliceSl3_p {t el : TypeId} {e : Nat} {x hi mx : Operand} {lo : Option Operand} {X H J : Opd} {L : Option Opd} (ho : o.op = .slice t x lo (some hi) (some mx)) (hu : P.underlying t = some (.slice el)) (hs : sizeOf? P el = some e) (hx : c x = some X) (hl : cOptW c lo = some L) (hh : c hi = some H) (hm : c mx = some J) :
    PureM P o c (hSliceSl3 e X L H J) := fun call ρ env st k A h hA => by
  simp only [hSliceSl3] at h
  have memx := mem_slice ho x (.inl rfl)
  have memlo : ∀ y, lo = some y → y ∈ o.op.operands := fun y hy => mem_slice ho y (.inr (.inl hy))
  have memhi := mem_slice ho hi (.inr (.inr (.inl rfl)))
  have memmx := mem_slice ho mx (.inr (.inr (.inr rfl)))
  have hrun : ∀ (a : Act) (w : World) (b : Option Addr) (n q l h m : Nat), a.eval x = .slice b n q → ((lo.map a.eval = none ∧ l = 0) ∨ ∃ j, lo.map a.eval = some (.int j l)) → (∃ j, a.eval hi = .int j h) → (∃ j, a.eval mx = .int j m) → l ≤ h → h ≤ m → m ≤ q →
      (execOp a.eval o).run P w = .ok (.value (.slice (if m = l then b else b.map (·.add (l * e))) (h - l) (m - l))) w := fun a w b n q l h m hv h1 h2 h3 h4 h5 h6 => by
    refine exec_slice ho a w w _ ?_
    have : (Instr.sliceBounds true n q (lo.map a.eval) (some (a.eval hi)) (some (a.eval mx))).run P w = .ok (l, h, m) w := by
      rcases h1 with ⟨h1, rfl⟩ | ⟨j, h1⟩
      · rw [h1]; exact (run_bounds3 (P := P) true n q 0 h m (.int .i64 (0 : Nat)) _ _ w (.inl rfl) h2 h3 h4 h5 h6).2 rfl
      · rw [h1]; exact (run_bounds3 (P := P) true n q l h m _ _ _ w (.inr ⟨j, rfl⟩) h2 h3 h4 h5 h6).1
    rw [hv]
    simp only [Instr.sliceAt, Instr.slice, run_under hu, Sem.run_bind, Result.andThen_ok, Option.map_some, this, run_size hs, Sem.run_pure]
  rcases p_sl h hA with ⟨g, h⟩ | ⟨g, h⟩
  · obtain ⟨l, h, b1⟩ := bound_ok hl h hA
    obtain ⟨g2, hh', hv2, h⟩ := p_idx h hA
    obtain ⟨g3, j, hv3, h⟩ := p_idx h hA
    obtain ⟨e1, h⟩ := p_when h hA
    rw [nand_eq, nand_eq, nand_eq, Bool.and_eq_true, Bool.and_eq_true, Bool.and_eq_true, beq_iff, ble_iff, ble_iff, ble_iff] at e1
    obtain ⟨⟨e0, e1⟩, e2, e3⟩ := e1
    rw [kSl_eq] at h
    refine ⟨_, h, fun G a hE => ?_⟩
    obtain ⟨cc, off, en, p, q, k1, k2, k3, k4, k5, k6⟩ := (hE x memx _ hx).i8 g
    obtain ⟨u2, _⟩ := (hE hi memhi _ hh).i3 g2
    obtain ⟨u3, _⟩ := (hE mx memmx _ hm).i3 g3
    rw [hv2] at u2
    rw [hv3] at u3
    rw [← e0] at k5 k6
    have hr := fun w => hrun a w _ _ _ l hh' j k2 (bok b1 memlo hE) ⟨_, u2⟩ ⟨_, u3⟩ e1 e2 (by omega)
    refine ⟨_, hr, .sl _ _ rfl ?_⟩
    have := SlOK.cut (G := G) (f := (X.v ρ env).f) (m := (X.v ρ env).a) (o := (X.v ρ env).b) (n := (X.v ρ env).c) (e := e) (k := 0) (cc := cc) (p := p) (q := q) (l := l) (h := hh') (r := j) (kk := Nat.succ (j - l)) ⟨off, en, k1, k3, k5, k6⟩ e1 (by omega) e2 (by omega) (.inr rfl)
    simp only [Option.map_some, add_lit]
    exact this
  · obtain ⟨l, h, b1⟩ := bound_ok hl h hA
    obtain ⟨g2, hh', hv2, h⟩ := p_idx h hA
    obtain ⟨g3, j, hv3, h⟩ := p_idx h hA
    obtain ⟨e1, h⟩ := p_when h hA
    rw [nand_eq, nand_eq, Bool.and_eq_true, Bool.and_eq_true, beq_iff, beq_iff, beq_iff] at e1
    obtain ⟨rfl, rfl, rfl⟩ := e1
    refine ⟨_, h, fun G a hE => ?_⟩
    obtain ⟨u2, _⟩ := (hE hi memhi _ hh).i3 g2
    obtain ⟨u3, _⟩ := (hE mx memmx _ hm).i3 g3
    rw [hv2] at u2
    rw [hv3] at u3
    have hr := fun w => hrun a w _ _ _ 0 0 0 ((hE x memx _ hx).i7 g) (bok b1 memlo hE) ⟨_, u2⟩ ⟨_, u3⟩ (Nat.le_refl _) (Nat.le_refl _) (Nat.le_refl _)
    exact ⟨_, hr, .nils _ rfl⟩

theorem sliceArr_l {t el : TypeId} {e n : Nat} {x : Operand} {lo hi : Option Operand} {X : Opd} {L H : Option Opd} (ho : o.op = .slice t x lo hi none) (hu : P.underlying t = some (.array n el)) (hs : sizeOf? P el = some e) (he : 0 < e) (hx : c x = some X) (hl : cOptW c lo = some L) (hh : cOptW c hi = some H) :
    LooksM P o c (hSliceArr n e X L H) := fun call ρ env st k A h hA => by
  simp only [hSliceArr] at h
  have memx := mem_slice ho x (.inl rfl)
  have memlo : ∀ y, lo = some y → y ∈ o.op.operands := fun y hy => mem_slice ho y (.inr (.inl hy))
  have memhi : ∀ y, hi = some y → y ∈ o.op.operands := fun y hy => mem_slice ho y (.inr (.inr (.inl hy)))
  obtain ⟨g, h⟩ := p_ptr h hA
  obtain ⟨g0, h⟩ := p_fam h hA
  obtain ⟨l, h, b1⟩ := bound_ok hl h hA
  obtain ⟨hh', h, b2⟩ := bound_ok hh h hA
  obtain ⟨e1, h⟩ := p_when h hA
  rw [nand_eq, nand_eq, nand_eq, nand_eq, Bool.and_eq_true, Bool.and_eq_true, Bool.and_eq_true, Bool.and_eq_true, ble_iff, ble_iff, ble_iff, ble_iff, ble_iff] at e1
  obtain ⟨⟨f1, f2⟩, e1, e2, e3⟩ := e1
  rw [kSl_eq] at h
  refine ⟨_, h, fun G w a hE hR => ?_⟩
  obtain ⟨cc, off, en, k1, k2, k3, k4⟩ := (hE x memx _ hx).i6 g
  obtain ⟨_, _, _, arr, elem, lo', hi', ha', hsz, hle, _⟩ := hR.member g0 f1 f2 k1
  have e3' : n * e ≤ (X.v ρ env).c := e3
  refine ⟨_, exec_slice ho a w w (.slice (some (if n = l then ⟨cc, (X.v ρ env).b - off, none⟩ else (⟨cc, (X.v ρ env).b - off, none⟩ : Addr).add (l * e))) (hh' - l) (n - l)) ?_, .sl _ _ rfl ?_⟩
  · have := run_bounds (P := P) false n n l hh' _ _ w (bok b1 memlo hE) (bok b2 memhi hE) e1 e2
    rw [k4]
    simp only [Instr.sliceAt, Instr.sureAddr, run_under hu, Sem.run_bind, Result.andThen_ok, Option.map_none, this, run_size hs, Sem.run_pure]
  · have := SlOK.cut (G := G) (f := (X.v ρ env).f) (m := (X.v ρ env).a) (o := (X.v ρ env).b) (n := n) (e := e) (k := 0) (cc := cc) (p := (X.v ρ env).b - off) (q := n) (l := l) (h := hh') (r := n) (kk := Nat.succ (n - l)) ⟨off, en, k1, Nat.le_refl _, he, .inr ⟨k2, rfl, by omega, by omega⟩⟩ e1 e2 e2 (Nat.le_refl _) (.inr rfl)
    rw [add_lit]
    split at this <;> simp_all

end
end Go.Ev
namespace Go.Ev
open Go

section
variable {P : Program} {o : Oper} {c : Operand → Option Opd}

theorem makeSl_d {t : TypeId} {x y : Operand} {X Y : Opd} (ho : o.op = .makeSlice t x y) (hx : c x = some X) (hy : c y = some Y) : DoesM P o c (cMakeSl P t X Y) := by
  unfold cMakeSl
  split
  · rename_i el hu
    split
    · rename_i inf hi
      split
      · rename_i z hz
        split
        · rename_i hc
          obtain ⟨hpos, hzl⟩ := hc
          intro call ρ env st k A h hA
          simp only [hMakeSl] at h
          obtain ⟨g1, n, hn, h⟩ := p_idx h hA
          obtain ⟨g2, j, hj, h⟩ := p_idx h hA
          obtain ⟨e, h⟩ := p_when h hA
          rw [nand_eq, Bool.and_eq_true, ble_iff, fits_iff] at e
          obtain ⟨e1, e2, e3⟩ := e
          rw [fL_eq] at h
          unfold newCellsK at h
          obtain ⟨g0, h⟩ := p_new h hA
          rw [kSl_eq] at h
          refine ⟨_, _, h, does_value fun G w a hE hR => ?_⟩
          obtain ⟨v1, _⟩ := (hE x (by simp [ho, Op.operands]) _ hx).i3 g1
          obtain ⟨v2, _⟩ := (hE y (by simp [ho, Op.operands]) _ hy).i3 g2
          rw [hn] at v1
          rw [hj] at v2
          obtain ⟨inf', zv, i1, i2, i3⟩ := zero_ok hz
          rw [hi] at i1
          cases i1
          have hzv := (i3 G).cells
          have hzlen : zv.cells.size = inf.size := by have := hzv.length; simp at this; omega
          have hmade := made_VRs hzv (by omega) j
          rw [hzl] at hmade
          have hml := hmade.length
          have hms : (madeCells zv.cells (j * inf.size)).size = j * inf.size := size_madeCells _ _
          have sim := hR.newRow g0 (repCells z.cells j) (madeCells zv.cells (j * inf.size)) el 0 0 (by simpa using Nat.le_of_eq hml) (fun x b hb => by
            obtain ⟨v, hv1, hv2⟩ := hmade.get hb
            exact ⟨v, by simpa using hv1, hv2⟩) (fun p _ => by omega)
          have hb : (inf.bytes : Int) * (j : Int) ≤ 281474976710656 := by
            have : inf.bytes * j ≤ (2 * j + 1000) * inf.bytes := by rw [Nat.mul_comm]; exact Nat.mul_le_mul_right _ (by omega)
            have h3 : inf.bytes * j ≤ 281474976710656 := by omega
            rw [← Int.natCast_mul]; omega
          have hr := run_make (P := P) w t el inf zv hu hi i2 (kof (X.v ρ env).a) (kof (Y.v ρ env).a) (n : Int) (j : Int) (by omega) (by omega) hb (by omega)
          refine ⟨.slice (some ⟨w.heap.size, 0, none⟩) n j, _, _, ?_, by rw [St.h_add']; exact sim, .sl _ _ rfl ⟨w.heap.size, 0, (repCells z.cells j).length, 0, j, Gh.put_same _ _ _ _ _, rfl, e1, .inr rfl, hpos, .inr ⟨Nat.le_refl _, rfl, ?_, ?_⟩⟩⟩
          · simp at hr
            simp [execOp, ho, v1, v2]
            rw [hr]
            rfl
          · show 0 + n * inf.size ≤ _
            rw [repCells_len, hzl, Nat.zero_add]
            exact Nat.mul_le_mul_right _ e1
          · simp only [Gh.put, if_true]
            omega
        · exact bad_does
      · exact bad_does
    · exact bad_does
  · exact bad_does

theorem opnds_ok {G : Gh} {ρ : List AV} {env : Env} {a : Act} : ∀ {xs : List Operand} {Xs : List Opd}, cOpndsW c xs = some Xs → (∀ x ∈ xs, ∀ X, c x = some X → VR G (X.v ρ env) (a.eval x)) → VRs G (gets ρ env Xs) (xs.map a.eval)
  | [], Xs, h, _ => by cases h; exact .nil
  | x :: xs, Xs, h, hE => by
    simp only [cOpndsW] at h
    split at h
    · cases h
    · rename_i X hX
      split at h
      · cases h
      · rename_i Ys hYs
        cases h
        exact .cons (hE x (by simp) X hX) (opnds_ok hYs fun y hy => hE y (by simp [hy]))
theorem getsK_eq (ρ : List AV) (env : Env) (xs : List Opd) (k : List AV → Ans) : getsK ρ env xs k = k (gets ρ env xs) := by
  induction xs generalizing k with
  | nil => rfl
  | cons x xs ih =>
    show fV (x.v ρ env) (fun v => getsK ρ env xs fun vs => k (v :: vs)) = _
    rw [fV_eq, ih]; rfl

theorem makeFunc_p {f : FuncId} {first cap : Array Operand} {Us : List Opd} (ho : o.op = .makeFunc (.func f) first cap) (hus : cOpndsW c (first.toList ++ cap.toList) = some Us) : PureM P o c (hMakeFunc f first.size Us) := fun call ρ env st k A h hA => by
  simp only [hMakeFunc, getsK_eq] at h
  refine ⟨_, h, fun G a hE => ?_⟩
  have := opnds_ok (G := G) (ρ := ρ) (env := env) (a := a) hus (fun x hx X hX => hE x (by rw [ho]; simpa [Op.operands] using hx) X hX)
  refine ⟨.func (.func f) (first.map a.eval) (cap.map a.eval), fun w => by simp [execOp, ho, Instr.makeFunc], .func _ _ _ rfl (by simp) ?_⟩
  simpa using this

theorem iface_p {t : TypeId} {x : Operand} {X : Opd} {d : TypeDesc} (ho : o.op = .makeInterface t x) (hx : c x = some X) (hu : P.underlying t = some d) (hd : ∀ ms, d ≠ .interface ms) : PureM P o c (hIface t X) := fun call ρ env st k A h hA => by
  simp only [hIface, fV_eq] at h
  refine ⟨_, h, fun G a hE => ⟨.iface t (a.eval x), fun w => ?_, .iface _ _ _ rfl rfl (hE x (by simp [ho, Op.operands]) _ hx)⟩⟩
  cases d <;> first
    | exact absurd rfl (hd _)
    | simp [execOp, ho, Instr.makeInterface, run_under hu]

theorem makeMap_d {t : TypeId} (ho : o.op = .makeMap t none) : DoesM P o c hMakeMap := fun call ρ env st k A h hA => by
  simp only [hMakeMap] at h
  obtain ⟨g0, h⟩ := p_new h hA
  refine ⟨_, _, h, does_value fun G w a hE hR => ?_⟩
  have sim := hR.newMap g0
  refine ⟨.map (some w.heap.size), _, _, ?_, by rw [St.h_add']; exact sim, .map _ _ _ _ rfl (Gh.put_same _ _ _ _ _)⟩
  simp [execOp, ho, Instr.makeMap]

theorem sliceData_p {cl : Call} {X : Operand} {X' : Opd} (ho : o.op = .call cl) (hb : cl.callee = .builtin .unsafeSliceData) (hargs : cl.args = #[X]) (hx : c X = some X') : PureM P o c (hSliceData X') := fun call ρ env st k A h hA => by
  have memX : X ∈ o.op.operands := by simp [ho, Op.operands, Call.operands, hb, hargs]
  have hrun : ∀ (a : Act) (w w' : World) (v : Value), (Builtin.unsafeSliceData_ cl.argTypes o.type #[a.eval X]).run P w = .ok v w' → (execOp a.eval o).run P w = .ok (.value v) w' := fun a w w' v hv => by
    refine run_builtin ho hb a w _ ?_
    simp [builtin, hargs, hv]
  simp only [hSliceData] at h
  rcases p_sl h hA with ⟨g, h⟩ | ⟨g, h⟩
  · obtain ⟨e, h⟩ := p_when h hA
    rw [blt_iff] at e
    rw [kPtr_eq] at h
    refine ⟨_, h, fun G a hE => ?_⟩
    obtain ⟨cc, off, en, p, q, b1, b2, b3, b4, b5, b6⟩ := (hE X memX _ hx).i8 g
    rcases b6 with b6 | ⟨c1, c2, c3, c4⟩
    · omega
    · refine ⟨.pointer (some ⟨cc, p, none⟩), fun w => hrun a w w _ ?_, .ptr _ _ rfl ⟨cc, off, en, b1, c1, c3, by rw [c2]⟩⟩
      have : q ≠ 0 := by omega
      rw [b2]
      show (if q ≠ 0 then (pure (Value.pointer (some ⟨cc, p, none⟩)) : Sem Value) else _).run P w = _
      rw [if_pos this]; rfl
  · refine ⟨_, h, fun G a hE => ⟨.pointer none, fun w => hrun a w w _ ?_, .nilp _ rfl⟩⟩
    rw [(hE X memX _ hx).i7 g]; rfl
end
end Go.Ev
namespace Go.Ev
open Go

section
variable {P : Program} {o : Oper} {c : Operand → Option Opd}

theorem appendZ_d {cl : Call} {S X : Operand} {S' X' : Opd} {t u el : TypeId} {kn : IntKind} {inf : TypeInfo} {z : AV} (ho : o.op = .call cl) (hb : cl.callee = .builtin .append) (hargs : cl.args = #[S, X]) (hty : cl.argTypes = #[t, u])
    (hs : c S = some S') (hx : c X = some X') (hu : P.underlying t = some (.slice el)) (hk : P.underlying u = some (.int kn)) (hi : P.info? el = some inf) (hz : zero? P el = some z) (hpos : 0 < inf.size) (hzl : z.cells.length = inf.size) :
    DoesM P o c (hAppendZ el inf.size inf.bytes z.cells S' X') := fun call ρ env st k A h hA => by
  simp only [hAppendZ] at h
  obtain ⟨g1, j, hj, h⟩ := p_idx h hA
  rw [on_eq] at h
  obtain ⟨e, h⟩ := p_when h hA
  rw [nand_eq, nand_eq, Bool.and_eq_true, Bool.and_eq_true, beq_iff, blt_iff, fits_iff] at e
  obtain ⟨g2, e1, e2, e3⟩ := e
  rw [fL_eq] at h
  unfold newCellsK at h
  obtain ⟨g0, h⟩ := p_new h hA
  rw [kSl_eq] at h
  have memS : S ∈ o.op.operands := by simp [ho, Op.operands, Call.operands, hb, hargs]
  have memX : X ∈ o.op.operands := by simp [ho, Op.operands, Call.operands, hb, hargs]
  refine ⟨_, _, h, does_value fun G w a hE hR => ?_⟩
  obtain ⟨v1, _⟩ := (hE X memX _ hx).i3 g1
  rw [hj] at v1
  have v2 := (hE S memS _ hs).i7 g2
  obtain ⟨inf', zv, i1, i2, i3⟩ := zero_ok hz
  rw [hi] at i1
  cases i1
  have hzv := (i3 G).cells
  have hzlen : zv.cells.size = inf.size := by have := hzv.length; simp at this; omega
  have hmade := made_VRs hzv (by omega) j
  have hmade' : VRs G (repCells z.cells j) (Builtin.zeroCells zv.cells j).toList := by
    rw [zeroCells_made, hzlen, ← hzl]; exact hmade
  have hml := hmade'.length
  have hcap := cap_ge w j 0 el
  have hsz : (Builtin.zeroCells zv.cells j ++ Builtin.zeroCells zv.cells (grownCap w j 0 el - j)).size = grownCap w j 0 el * inf.size := by
    rw [Array.size_append, zc_size, zc_size, hzlen, ← Nat.add_mul]; congr 1; omega
  have hjl : (repCells z.cells j).length = j * inf.size := by rw [repCells_len, hzl]
  have hjm : j * inf.size ≤ grownCap w j 0 el * inf.size := Nat.mul_le_mul_right _ hcap
  have sim := hR.drew.newRow g0 (repCells z.cells j) (Builtin.zeroCells zv.cells j ++ Builtin.zeroCells zv.cells (grownCap w j 0 el - j)) el 0 0 (by rw [hsz, hjl]; exact hjm)
    (fun x a' hxa => by
      have := grown_row hmade' (Builtin.zeroCells zv.cells (grownCap w j 0 el - j)) x a' hxa
      simpa using this) (fun p _ => by omega)
  have hb2 : j * inf.bytes ≤ 281474976710656 := by
    have : j * inf.bytes ≤ (2 * j + 1000) * inf.bytes := Nat.mul_le_mul_right _ (by omega)
    omega
  have hr := Lib.run_append_nil_zeros (P := P) w t u o.type el inf zv (kof (X'.v ρ env).a) kn hu hk hi i2 j e1 hpos (by omega) hb2
  refine ⟨.slice (some ⟨w.heap.size, 0, none⟩) j (grownCap w j 0 el), _, _, ?_, by rw [St.h_add']; exact Sim.trans hR (Sim.drew hR) sim, .sl _ _ rfl ⟨w.heap.size, 0, (repCells z.cells j).length, 0, grownCap w j 0 el, Gh.put_same _ _ _ _ _, rfl, hcap, .inl rfl, hpos, .inr ⟨Nat.le_refl _, rfl, ?_, ?_⟩⟩⟩
  · refine run_builtin ho hb a w _ ?_
    have v1' : a.eval X = .int (kof (X'.v ρ env).a) (j : Int) := v1
    simp [builtin, hargs, hty, v1', v2, hr]
  · show 0 + j * inf.size ≤ _
    omega
  · show 0 + grownCap w j 0 el * inf.size ≤ (if _ then _ else _)
    rw [if_pos rfl, hsz]; omega

theorem byteCells_take : ∀ (m n s : Nat), n ≤ m → byteCellsOf n s = (byteCellsOf m s).take n
  | _, 0, _, _ => by rw [List.take_zero]; rfl
  | 0, n + 1, _, h => by omega
  | m + 1, n + 1, s, h => by
    show vInt 4 _ :: byteCellsOf n (Nat.div s 256) = List.take (n + 1) (vInt 4 _ :: byteCellsOf m (Nat.div s 256))
    rw [List.take_succ_cons, byteCells_take m n _ (by omega)]

/-- The first cells of a slice or a text. -/
theorem head_ok {st : St} {e : Nat} {x : AV} {j : Nat} {r : List AV → Ans} {A : Ans} (h : headK st e x j r = A) (hA : A ≠ .bad) (hj : 0 < j) :
    ∃ cells, r cells = A ∧ ((x.g = 8 ∧ j ≤ x.c) ∨ (x.g ≠ 8 ∧ j ≤ x.a) → ∀ G w v, Rel G st.h w → VR G x v →
      ∃ vs : List Value, VRs G cells vs ∧ vs.length = j * e ∧ (Builtin.firstCells e j v).run P w = .ok vs.toArray w) := by
  unfold headK at h
  rcases p_asel h with ⟨g, h⟩ | ⟨g', h⟩
  · rw [beq_iff] at g
    obtain ⟨ee, h⟩ := p_when h hA
    rw [beq_iff] at ee
    obtain ⟨f1, f2, f3, f4, h⟩ := p_read h hA
    refine ⟨_, h, fun hle G w v hR hv => ?_⟩
    have hle' : j ≤ x.c := by
      rcases hle with h | h
      · exact h.2
      · exact absurd g h.1
    obtain ⟨cc, off, en, p, q, b1, b2, b3, b4, b5, b6⟩ := hv.i8 g
    rcases b6 with b6 | ⟨c1, c2, c3, c4⟩
    · omega
    · have hm : j * e ≤ x.c * e := Nat.mul_le_mul_right _ hle'
      obtain ⟨vs, v1, v2, v3⟩ := hR.cells f1 f2 f3 b1 c1 (n := j * e) (by rw [← ee] at c3; omega)
      refine ⟨vs, v2, v1, ?_⟩
      rw [b2]
      exact run_firstCells_some w e j _ x.c q vs v1 fun i u hi => by rw [add_lit, c2]; exact v3 i u hi
  · obtain ⟨e1, h⟩ := p_when h hA
    rw [nand_eq, Bool.and_eq_true, beq_iff, beq_iff] at e1
    obtain ⟨g, ee⟩ := e1
    rw [byteCellsK2_eq] at h
    refine ⟨_, h, fun hle G w v hR hv => ?_⟩
    have hle' : j ≤ x.a := by
      rcases hle with h | h
      · rw [g] at h; cases h.1
      · exact h.2
    obtain ⟨s, rfl, q1, q2⟩ := hv.i4 g
    refine ⟨(byteCells s).take j, ?_, ?_, ?_⟩
    · rw [byteCells_take s.size j _ (by omega), ← q2]
      exact (byteCells_ok G s).take j
    · rw [List.length_take, byteCells_length, ee]; omega
    · have e2 : ((s.extract 0 j).data.map fun b => Value.int .u8 b.toNat) = ((byteCells s).take j).toArray := by
        apply Array.ext'
        simp [byteCells, ByteArray.data_extract]
      rw [← e2]
      rfl

theorem run_copy {el : TypeId} {t : TypeId} {e : Nat} {ats : Array TypeId} (hty : ats[0]? = some t) (hu : P.underlying t = some (.slice el)) (hs : sizeOf? P el = some e) (ty : TypeId) (w : World) (cc p dn q n : Nat) (src : Value) (vs : List Value)
    (hn : (Builtin.lenOf src).run P w = .ok n w) (hf : (Builtin.firstCells e (min n dn) src).run P w = .ok vs.toArray w)
    (h1 : ∀ j, j < vs.length → (w.cell? ⟨cc, p + j, none⟩).isSome = true) (h2 : ∀ j, j < vs.length → w.frozen? ⟨cc, p + j, none⟩ = false) (h3 : ∀ v ∈ vs, v.oneCell' = true) :
    (Builtin.copy_ ats ty #[.slice (some ⟨cc, p, none⟩) dn q, src]).run P w = .ok (goInt ((min n dn : Nat) : Int)) (w.setCells cc p vs) := by
  have hst := run_storeCells_cells (P := P) cc p vs 0 w (by simpa using h1) (by simpa using h2) h3
  rw [Nat.add_zero] at hst
  have hmn : Nat.min n dn = min n dn := rfl
  simp only [Builtin.copy_, hty]
  simp [run_under hu, hn, run_size hs, hmn, hf, hst]

theorem len_src {x : AV} {k : Nat → Ans} {A : Ans} (h : lenK x k = A) (hA : A ≠ .bad) : ∃ n, k n = A ∧ ((x.g = 8 ∧ n = x.c) ∨ (x.g = 4 ∧ n = x.a) ∨ (x.g = 7 ∧ n = 0)) ∧ ∀ G w v, VR G x v → (Builtin.lenOf v).run P w = .ok n w := by
  unfold lenK at h
  rcases p_asel h with ⟨g, h⟩ | ⟨_, h⟩
  · rw [beq_iff] at g
    refine ⟨_, h, .inl ⟨g, rfl⟩, fun G w v hv => ?_⟩
    obtain ⟨cc, off, en, p, q, b1, b2, b3, b4, b5, b6⟩ := hv.i8 g
    rw [b2]; rfl
  · rcases p_asel h with ⟨g, h⟩ | ⟨_, h⟩
    · rw [beq_iff] at g
      refine ⟨_, h, .inr (.inl ⟨g, rfl⟩), fun G w v hv => ?_⟩
      obtain ⟨s, rfl, q1, q2⟩ := hv.i4 g
      rw [← q1]; rfl
    · obtain ⟨g, h⟩ := p_when h hA
      rw [beq_iff] at g
      refine ⟨_, h, .inr (.inr ⟨g, rfl⟩), fun G w v hv => ?_⟩
      rw [hv.i7 g]; rfl

theorem first_zero {G : Gh} {x : AV} {v : Value} (h : VR G x v) (hg : x.g = 8 ∨ x.g = 4 ∨ x.g = 7) (e : Nat) (w : World) : (Builtin.firstCells e 0 v).run P w = .ok #[] w := by
  rcases hg with g | g | g
  · obtain ⟨cc, off, en, p, q, b1, b2, b3, b4, b5, b6⟩ := h.i8 g
    rw [b2]
    exact run_firstCells_some w e 0 _ _ q [] (by simp) (fun j u hj => by simp at hj)
  · obtain ⟨s, rfl, q1, q2⟩ := h.i4 g
    simp [Builtin.firstCells]
  · rw [h.i7 g]; exact run_firstCells_none w e 0 0 0

theorem copy_d {cl : Call} {D S : Operand} {D' S' : Opd} {t : TypeId} (ho : o.op = .call cl) (hb : cl.callee = .builtin .copy) (hargs : cl.args = #[D, S]) (hty : cl.argTypes[0]? = some t) (hd : c D = some D') (hs : c S = some S') : DoesM P o c (cCopy P t D' S') := by
  have memD : D ∈ o.op.operands := by simp [ho, Op.operands, Call.operands, hb, hargs]
  have memS : S ∈ o.op.operands := by simp [ho, Op.operands, Call.operands, hb, hargs]
  have hrun : ∀ (a : Act) (w w' : World) (v : Value), (Builtin.copy_ cl.argTypes o.type #[a.eval D, a.eval S]).run P w = .ok v w' → (execOp a.eval o).run P w = .ok (.value v) w' := fun a w w' v hv => by
    refine run_builtin ho hb a w _ ?_
    simp [builtin, hargs, hv]
  unfold cCopy
  split
  · rename_i el hu
    split
    · rename_i e hsz
      split
      · rename_i he
        intro call ρ env st k A h hA
        simp only [hCopy] at h
        obtain ⟨n, h, hn, hlen⟩ := len_src (P := P) h hA
        have hgn : (S'.v ρ env).g = 8 ∨ (S'.v ρ env).g = 4 ∨ (S'.v ρ env).g = 7 := by
          rcases hn with h | h | h
          · exact .inl h.1
          · exact .inr (.inl h.1)
          · exact .inr (.inr h.1)
        rcases p_sl h hA with ⟨g, h⟩ | ⟨g, h⟩
        · obtain ⟨ee, h⟩ := p_when h hA
          rw [beq_iff] at ee
          rcases p_asel h with ⟨z, h⟩ | ⟨z, h⟩
          · rw [beq_iff, nmin_eq] at z
            rw [kNat_eq] at h
            refine ⟨_, _, h, does_value fun G w a hE hR => ?_⟩
            obtain ⟨cc, off, en, p, q, b1, b2, b3, b4, b5, b6⟩ := (hE D memD _ hd).i8 g
            have hS := hE S memS _ hs
            refine ⟨goInt 0, w, G, hrun a w w _ ?_, Sim.refl hR, VR.goInt _ 0⟩
            have hz : min n (D'.v ρ env).c = 0 := z
            have hr := run_copy (P := P) hty hu hsz o.type w cc p (D'.v ρ env).c q n (a.eval S) [] (hlen G w _ hS) (by rw [hz]; exact first_zero hS hgn e w) (fun j hj => by simp at hj) (fun j hj => by simp at hj) (fun v hv => by cases hv)
            rw [b2, hr, hz]
            rfl
          · have hz : min n (D'.v ρ env).c ≠ 0 := fun hz => by
              have : nmin n (D'.v ρ env).c = 0 := (nmin_eq _ _).trans hz
              rw [this] at z; cases z
            rw [nmin_eq] at h
            have hm1 : min n (D'.v ρ env).c ≤ n := Nat.min_le_left _ _
            have hm2 : min n (D'.v ρ env).c ≤ (D'.v ρ env).c := Nat.min_le_right _ _
            obtain ⟨cells, h, hcs⟩ := head_ok (P := P) h hA (Nat.pos_of_ne_zero hz)
            obtain ⟨f1, f2, f3, f4, f5, h⟩ := p_write h hA
            rw [kNat_eq] at h
            refine ⟨_, _, h, does_value fun G w a hE hR => ?_⟩
            have hS := hE S memS _ hs
            obtain ⟨vs, v1, v2, v3⟩ := hcs (by
              rcases hn with ⟨q1, q2⟩ | ⟨q1, q2⟩ | ⟨q1, q2⟩
              · exact .inl ⟨q1, by rw [← q2]; exact hm1⟩
              · exact .inr ⟨by omega, by rw [← q2]; exact hm1⟩
              · omega) G w _ hR hS
            obtain ⟨cc, off, en, p, q, b1, b2, b3, b4, b5, b6⟩ := (hE D memD _ hd).i8 g
            rcases b6 with b6 | ⟨c1, c2, c3, c4⟩
            · omega
            · rw [f2] at b1
              rw [← ee] at c3
              have hm3 : min n (D'.v ρ env).c * e ≤ (D'.v ρ env).c * e := Nat.mul_le_mul_right _ hm2
              have hvl := v1.length
              obtain ⟨s1, s2, s3, s4⟩ := hR.store f1 f3 b1 v1 f4 c1 (by omega)
              rw [← c2] at s1 s2 s4
              have hr := run_copy (P := P) hty hu hsz o.type w cc p (D'.v ρ env).c q n (a.eval S) vs (hlen G w _ hS) v3 s1 s2 s3
              exact ⟨_, _, G, hrun a w _ _ (by rw [b2]; exact hr), by rw [St.h_set']; exact s4, VR.goInt _ _⟩
        · rw [kNat_eq] at h
          refine ⟨_, _, h, does_value fun G w a hE hR => ?_⟩
          have hS := hE S memS _ hs
          refine ⟨goInt 0, w, G, hrun a w w _ ?_, Sim.refl hR, VR.goInt _ 0⟩
          have hz : Nat.min n 0 = 0 := Nat.min_zero _
          have hl := hlen G w _ hS
          have hf := first_zero (P := P) hS hgn e w
          rw [(hE D memD _ hd).i7 g]
          simp only [Builtin.copy_, hty]
          simp [run_under hu, hl, run_size hsz, hf]
      · exact bad_does
    · exact bad_does
  · exact bad_does

theorem clear_d {cl : Call} {X : Operand} {X' : Opd} {t : TypeId} (ho : o.op = .call cl) (hb : cl.callee = .builtin .clear) (hargs : cl.args = #[X]) (hty : cl.argTypes[0]? = some t) (hx : c X = some X') : DoesM P o c (cClear P t X') := by
  have memX : X ∈ o.op.operands := by simp [ho, Op.operands, Call.operands, hb, hargs]
  have hrun : ∀ (a : Act) (w w' : World) (v : Value), (Builtin.clear_ cl.argTypes o.type #[a.eval X]).run P w = .ok v w' → (execOp a.eval o).run P w = .ok (.value v) w' := fun a w w' v hv => by
    refine run_builtin ho hb a w _ ?_
    simp [builtin, hargs, hv]
  unfold cClear
  split
  · rename_i el hu
    split
    · rename_i z hz
      split
      · rename_i e hsz
        split
        · rename_i hc
          obtain ⟨he, hzl⟩ := hc
          intro call ρ env st k A h hA
          simp only [hClear] at h
          rcases p_sl h hA with ⟨g, h⟩ | ⟨g, h⟩
          · obtain ⟨ee, h⟩ := p_when h hA
            rw [beq_iff] at ee
            rcases p_asel h with ⟨hn, h⟩ | ⟨hn, h⟩
            · rw [beq_iff] at hn
              refine ⟨_, _, h, does_value fun G w a hE hR => ?_⟩
              obtain ⟨cc, off, en, p, q, b1, b2, b3, b4, b5, b6⟩ := (hE X memX _ hx).i8 g
              refine ⟨.tuple #[], w, G, hrun a w w _ ?_, Sim.refl hR, VR.und⟩
              rw [b2, hn]
              simp only [Builtin.clear_, hty]
              simp [run_under hu]
            · have hn0 : (X'.v ρ env).c ≠ 0 := fun e => by rw [e] at hn; cases hn
              rw [fL_eq] at h
              obtain ⟨f1, f2, f3, f4, f5, h⟩ := p_write h hA
              refine ⟨_, _, h, does_value fun G w a hE hR => ?_⟩
              obtain ⟨cc, off, en, p, q, b1, b2, b3, b4, b5, b6⟩ := (hE X memX _ hx).i8 g
              obtain ⟨inf, zv, i1, i2, i3⟩ := zero_ok hz
              have hzv := (i3 G).cells
              obtain ⟨inf', i1', i4⟩ := size_ok hsz
              rw [i1] at i1'
              cases i1'
              have hzlen : zv.cells.size = z.cells.length := by have := hzv.length; simp at this; omega
              have hmade := made_VRs hzv (by omega) (X'.v ρ env).c
              rw [← hzlen, ← zeroCells_made] at hmade
              have hlen := repCells_len z.cells (X'.v ρ env).c
              rcases b6 with b6 | ⟨c1, c2, c3, c4⟩
              · omega
              · rw [f2] at b1
                obtain ⟨s1, s2, s3, s4⟩ := hR.store f1 f3 b1 hmade f4 c1 (by rw [hlen, hzl, ee]; exact c3)
                rw [← c2] at s1 s2 s4
                refine ⟨.tuple #[], _, G, hrun a w _ _ ?_, by rw [St.h_set']; exact s4, VR.und⟩
                obtain ⟨n', hn'⟩ : ∃ n', (X'.v ρ env).c = n' + 1 := ⟨(X'.v ρ env).c - 1, by omega⟩
                have hst := run_storeCells_cells (P := P) cc p (Builtin.zeroCells zv.cells (X'.v ρ env).c).toList 0 w (by simpa using s1) (by simpa using s2) s3
                rw [Nat.add_zero] at hst
                rw [b2]
                rw [hn'] at hst ⊢
                simp only [Builtin.clear_, hty]
                simp [run_under hu, zeroValue, typeInfo, i1, i2, hst]
          · refine ⟨_, _, h, does_value fun G w a hE hR => ?_⟩
            refine ⟨.tuple #[], w, G, hrun a w w _ ?_, Sim.refl hR, VR.und⟩
            rw [(hE X memX _ hx).i7 g]
            simp only [Builtin.clear_, hty]
            simp [run_under hu]
        · exact bad_does
      · exact bad_does
    · exact bad_does
  · exact bad_does
end
end Go.Ev
namespace Go.Ev
open Go

/- bytes as a number -/
theorem div_pow8 (s i : Nat) : Nat.shiftRight s (Nat.mul 8 i) = s / 256 ^ i := by
  show s >>> (8 * i) = _
  rw [Nat.shiftRight_eq_div_pow, Nat.pow_mul]
theorem enc_div : ∀ (l : List Nat), (∀ b ∈ l, b < 256) → ∀ i, enc l / 256 ^ i = enc (l.drop i)
  | l, _, 0 => by simp
  | [], _, i + 1 => by simp [enc]
  | b :: l, h, i + 1 => by
    have hb := h b (by simp)
    have : enc (b :: l) / 256 ^ (i + 1) = enc l / 256 ^ i := by
      rw [Nat.pow_succ, Nat.mul_comm, ← Nat.div_div_eq_div_mul]
      congr 1
      show (b + 256 * enc l) / 256 = enc l
      omega
    rw [this, enc_div l (fun x hx => h x (by simp [hx])) i]
    rfl
theorem enc_mod : ∀ (l : List Nat), (∀ b ∈ l, b < 256) → ∀ k, enc l % 256 ^ k = enc (l.take k)
  | l, _, 0 => by simp [enc, Nat.mod_one]
  | [], _, k + 1 => by simp [enc]
  | b :: l, h, k + 1 => by
    have hb := h b (by simp)
    have ih := enc_mod l (fun x hx => h x (by simp [hx])) k
    show (b + 256 * enc l) % 256 ^ (k + 1) = b + 256 * enc (l.take k)
    rw [← ih, Nat.pow_succ, Nat.mul_comm (256 ^ k) 256, Nat.mod_mul]
    have e1 : (b + 256 * enc l) % 256 = b := by omega
    have e2 : (b + 256 * enc l) / 256 = enc l := by omega
    rw [e1, e2]
theorem enc_append : ∀ (l m : List Nat), enc (l ++ m) = enc l + 256 ^ l.length * enc m
  | [], m => by simp [enc]
  | b :: l, m => by
    show b + 256 * enc (l ++ m) = b + 256 * enc l + 256 ^ (l.length + 1) * enc m
    rw [enc_append l m, Nat.pow_succ, Nat.mul_add, Nat.mul_comm (256 ^ l.length) 256, Nat.mul_assoc, Nat.add_assoc]
theorem dec_enc : ∀ (l : List Nat), (∀ b ∈ l, b < 256) → dec l.length (enc l) = l
  | [], _ => rfl
  | b :: l, h => by
    have hb := h b (by simp)
    show ((b + 256 * enc l) % 256) :: dec l.length ((b + 256 * enc l) / 256) = b :: l
    have e1 : (b + 256 * enc l) % 256 = b := by omega
    have e2 : (b + 256 * enc l) / 256 = enc l := by omega
    rw [e1, e2, dec_enc l fun x hx => h x (by simp [hx])]
theorem sAt_enc (l : List Nat) (h : ∀ b ∈ l, b < 256) (i b : Nat) (hi : l[i]? = some b) : sAt (enc l) i = b := by
  unfold sAt
  rw [div_pow8, enc_div l h]
  have : l.drop i = b :: l.drop (i + 1) := by
    obtain ⟨hlt, hb⟩ := List.getElem?_eq_some_iff.1 hi
    rw [List.drop_eq_getElem_cons hlt, hb]
  rw [this]
  have hb := h b (List.mem_of_getElem? hi)
  show (b + 256 * enc _) % 256 = b
  omega
theorem sCut_enc (l : List Nat) (h : ∀ b ∈ l, b < 256) (a k : Nat) : sCut (enc l) a k = enc ((l.drop a).take k) := by
  unfold sCut
  rw [div_pow8, enc_div l h]
  show enc (l.drop a) % 2 ^ (8 * k) = _
  rw [Nat.pow_mul]
  exact enc_mod _ (fun b hb => h b (List.mem_of_mem_drop hb)) k
theorem sCat_enc (l m : List Nat) : sCat l.length (enc l) (enc m) = enc (l ++ m) := by
  rw [enc_append]
  show enc l + enc m * 2 ^ (8 * l.length) = _
  rw [Nat.pow_mul, Nat.mul_comm (enc m)]

theorem bytesOf_length (s : ByteArray) : (bytesOf s).length = s.size := by
  simp [bytesOf]
theorem bytesOf_get (s : ByteArray) (i : Nat) : (bytesOf s)[i]? = (s.data[i]?).map (·.toNat) := by simp [bytesOf]

theorem lltB_eq : ∀ (x y : List UInt8), lltB (x.map (·.toNat)) (y.map (·.toNat)) = Op.bytesLess x y
  | _, [] => by cases ‹List UInt8› <;> rfl
  | [], _ :: _ => rfl
  | a :: x, b :: y => by
    have ih := lltB_eq x y
    simp only [List.map_cons, lltB, Op.bytesLess, ih]
    by_cases h : a.toNat < b.toNat
    · have : a < b := h
      simp [h, this]
    · have h1 : ¬ a < b := h
      by_cases h2 : a.toNat = b.toNat
      · have : a = b := UInt8.toNat_inj.1 h2
        subst this
        simp [h1]
      · have : a ≠ b := fun e => h2 (by rw [e])
        simp [h, h1, h2, this]

theorem map_toNat_inj {x y : List UInt8} : x.map (·.toNat) = y.map (·.toNat) ↔ x = y := by
  constructor
  · intro h
    exact (List.map_inj_right (fun a b e => UInt8.toNat_inj.1 e)).1 h
  · rintro rfl; rfl
theorem toList_data (s : ByteArray) : s.toList = s.data.toList := by
  exact ByteArray.toList_eq s

theorem seq_ok (s t : ByteArray) : seq s.size (enc (bytesOf s)) t.size (enc (bytesOf t)) = (s.toList == t.toList) := by
  unfold seq
  rw [nand_eq, toList_data, toList_data]
  have hs := bytesOf_lt s
  have ht := bytesOf_lt t
  rw [Bool.eq_iff_iff, Bool.and_eq_true, beq_iff, beq_iff]
  constructor
  · rintro ⟨h1, h2⟩
    have e1 := dec_enc _ hs
    have e2 := dec_enc _ ht
    rw [bytesOf_length] at e1 e2
    rw [h1, h2, e2] at e1
    have : s.data.toList = t.data.toList := map_toNat_inj.1 e1.symm
    simp [this]
  · intro h
    have h : s.data.toList = t.data.toList := by simpa using h
    have e : s = t := by
      cases s; cases t
      congr 1
      exact Array.toList_inj.1 h
    rw [e]; exact ⟨rfl, rfl⟩
theorem slt_ok (s t : ByteArray) : slt s.size (enc (bytesOf s)) t.size (enc (bytesOf t)) = Op.bytesLess s.toList t.toList := by
  unfold slt
  have e1 := dec_enc _ (bytesOf_lt s)
  have e2 := dec_enc _ (bytesOf_lt t)
  rw [bytesOf_length] at e1 e2
  rw [e1, e2, toList_data, toList_data]
  exact lltB_eq _ _
end Go.Ev
namespace Go.Ev
open Go

section
variable {P : Program} {o : Oper} {c : Operand → Option Opd}

theorem guard_str (op : BinOp) (t : TypeId) (x y : Operand) (a b : ByteArray) (w : World) : (eqGuard op t x y (.string a) (.string b)).run P w = .ok () w := by
  unfold eqGuard; split <;> simp
theorem run_scmp (op : BinOp) (g : Nat → Nat → Nat → Nat → Bool) (hg : (op = .lss ∧ g = slt) ∨ (op = .leq ∧ g = sle) ∨ (op = .gtr ∧ g = sgt) ∨ (op = .geq ∧ g = sge) ∨ (op = .eql ∧ g = seq) ∨ (op = .neq ∧ g = sne)) (a b : ByteArray) (t : TypeId) (w : World) :
    (binOp op t (.string a) (.string b)).run P w = .ok (.bool (g a.size (enc (bytesOf a)) b.size (enc (bytesOf b)))) w := by
  rcases hg with ⟨rfl, rfl⟩ | ⟨rfl, rfl⟩ | ⟨rfl, rfl⟩ | ⟨rfl, rfl⟩ | ⟨rfl, rfl⟩ | ⟨rfl, rfl⟩
  · rw [binOp_string_lss, slt_ok]; rfl
  · rw [binOp_string_leq]; unfold sle; rw [nor_eq, slt_ok, seq_ok]; rfl
  · rw [binOp_string_gtr]; unfold sgt sle; rw [nnot_eq, nor_eq, slt_ok, seq_ok]; rfl
  · rw [binOp_string_geq]; unfold sge; rw [nnot_eq, slt_ok]; rfl
  · rw [binOp_string_eql, seq_ok]; rfl
  · rw [binOp_string_neq]; unfold sne; rw [nnot_eq, seq_ok]; rfl

theorem str_p {op : BinOp} {t u : TypeId} {x y : Operand} {X Y : Opd} {g : Nat → Nat → Nat → Nat → Bool} (ho : o.op = .binOp op t x y u) (hx : c x = some X) (hy : c y = some Y)
    (hg : (op = .lss ∧ g = slt) ∨ (op = .leq ∧ g = sle) ∨ (op = .gtr ∧ g = sgt) ∨ (op = .geq ∧ g = sge) ∨ (op = .eql ∧ g = seq) ∨ (op = .neq ∧ g = sne)) : PureM P o c (hStr g X Y) := fun call ρ env st k A h hA => by
  simp only [hStr] at h
  obtain ⟨g1, h⟩ := p_str h hA
  obtain ⟨g2, h⟩ := p_str h hA
  rw [kBool_eq] at h
  refine ⟨_, h, fun G a hE => ?_⟩
  obtain ⟨s1, v1, q1, q2⟩ := (hE x (by simp [ho, Op.operands]) _ hx).i4 g1
  obtain ⟨s2, v2, q3, q4⟩ := (hE y (by simp [ho, Op.operands]) _ hy).i4 g2
  refine ⟨.bool (g (X.v ρ env).a (X.v ρ env).b (Y.v ρ env).a (Y.v ρ env).b), fun w => run_bin op t u x y ho a w _ (by rw [v1, v2]; exact guard_str _ _ _ _ _ _ _) ?_, VR.mkBool _ _ rfl rfl⟩
  rw [v1, v2, ← q1, ← q2, ← q3, ← q4]
  exact run_scmp op g hg s1 s2 t w

theorem VR.mkStr (G : Gh) (s : ByteArray) (x : AV) (hg : x.g = 4) (ha : x.a = s.size) (hb : x.b = enc (bytesOf s)) : VR G x (.string s) := .str x s hg ha.symm hb.symm
theorem bytesOf_append (s t : ByteArray) : bytesOf (s ++ t) = bytesOf s ++ bytesOf t := by
  simp [bytesOf, ByteArray.data_append]
theorem bytesOf_extract (s : ByteArray) (l h : Nat) : bytesOf (s.extract l h) = ((bytesOf s).drop l).take (h - l) := by
  simp [bytesOf, ByteArray.data_extract, List.map_take, List.map_drop]

theorem cat_p {t u : TypeId} {x y : Operand} {X Y : Opd} (ho : o.op = .binOp .add t x y u) (hx : c x = some X) (hy : c y = some Y) : PureM P o c (hCat X Y) := fun call ρ env st k A h hA => by
  simp only [hCat] at h
  obtain ⟨g1, h⟩ := p_str h hA
  obtain ⟨g2, h⟩ := p_str h hA
  obtain ⟨e, h⟩ := p_when h hA
  rw [blt_iff] at e
  rw [kStr_eq] at h
  refine ⟨_, h, fun G a hE => ?_⟩
  obtain ⟨s1, v1, q1, q2⟩ := (hE x (by simp [ho, Op.operands]) _ hx).i4 g1
  obtain ⟨s2, v2, q3, q4⟩ := (hE y (by simp [ho, Op.operands]) _ hy).i4 g2
  have e' : (X.v ρ env).a + (Y.v ρ env).a < 9223372036854775807 := e
  refine ⟨.string (s1 ++ s2), fun w => run_bin .add t u x y ho a w _ (by rw [v1, v2]; exact guard_str _ _ _ _ _ _ _) ?_, VR.mkStr _ _ _ rfl ?_ ?_⟩
  · rw [v1, v2, binOp_string_add]
    exact run_string_add_sum w s1 s2 (by omega)
  · show (X.v ρ env).a + (Y.v ρ env).a = _
    rw [ByteArray.size_append, q1, q3]
  · show sCat _ _ _ = _
    rw [bytesOf_append, ← sCat_enc, bytesOf_length, q1, q2, q4]

theorem index_p {t : TypeId} {x i : Operand} {X I : Opd} (ho : o.op = .index t x i) (hx : c x = some X) (hi : c i = some I) : PureM P o c (cIndex P t X I) := by
  unfold cIndex
  split
  · rename_i hu
    intro call ρ env st k A h hA
    simp only [hIndexStr] at h
    obtain ⟨g1, h⟩ := p_str h hA
    obtain ⟨g2, j, hj, h⟩ := p_idx h hA
    obtain ⟨e, h⟩ := p_when h hA
    rw [blt_iff] at e
    rw [kInt_eq] at h
    refine ⟨_, h, fun G a hE => ?_⟩
    obtain ⟨s, v1, q1, q2⟩ := (hE x (by simp [ho, Op.operands]) _ hx).i4 g1
    obtain ⟨v2, _⟩ := (hE i (by simp [ho, Op.operands]) _ hi).i3 g2
    rw [hj] at v2
    have hlt : j < s.size := by rw [q1]; exact e
    have hget : (bytesOf s)[j]? = some (s[j]'hlt).toNat := by
      rw [bytesOf_get]
      have : s.data[j]? = some (s[j]'hlt) := Array.getElem?_eq_getElem hlt
      rw [this]; rfl
    have hat := sAt_enc _ (bytesOf_lt s) j _ hget
    refine ⟨.int .u8 (s[j]'hlt).toNat, fun w => ?_, VR.mkInt .u8 _ _ rfl rfl ?_⟩
    · have hr := run_index_string (P := P) (w := w) t s (kof (I.v ρ env).a) (j : Int) hu
      rw [dif_pos ⟨by omega, by omega⟩] at hr
      have v2' : a.eval i = .int (kof (I.v ρ env).a) (j : Int) := v2
      simp [execOp, ho, v1, v2', hr]
    · show Int.ofNat (sAt (X.v ρ env).b j) = _
      rw [← q2, hat]; rfl
  · exact bad_pure

theorem sliceStr_p {t : TypeId} {x : Operand} {lo hi : Option Operand} {X : Opd} {L H : Option Opd} (ho : o.op = .slice t x lo hi none) (hu : P.underlying t = some .string) (hx : c x = some X) (hl : cOptW c lo = some L) (hh : cOptW c hi = some H) :
    PureM P o c (hSliceStr X L H) := fun call ρ env st k A h hA => by
  simp only [hSliceStr] at h
  have memx := mem_slice ho x (.inl rfl)
  have memlo : ∀ y, lo = some y → y ∈ o.op.operands := fun y hy => mem_slice ho y (.inr (.inl hy))
  have memhi : ∀ y, hi = some y → y ∈ o.op.operands := fun y hy => mem_slice ho y (.inr (.inr (.inl hy)))
  obtain ⟨g, h⟩ := p_str h hA
  obtain ⟨l, h, b1⟩ := bound_ok hl h hA
  obtain ⟨hh', h, b2⟩ := bound_ok hh h hA
  obtain ⟨e1, h⟩ := p_when h hA
  rw [nand_eq, Bool.and_eq_true, ble_iff, ble_iff] at e1
  obtain ⟨e1, e2⟩ := e1
  rw [kStr_eq] at h
  refine ⟨_, h, fun G a hE => ?_⟩
  obtain ⟨s, v1, q1, q2⟩ := (hE x memx _ hx).i4 g
  refine ⟨.string (s.extract l hh'), fun w => exec_slice ho a w w _ ?_, VR.mkStr _ _ _ rfl ?_ ?_⟩
  · have hb2 := bok b2 memhi hE
    rw [← q1] at hb2
    have hr := run_bounds (P := P) false s.size s.size l hh' _ _ w (bok b1 memlo hE) hb2 e1 (by omega)
    rw [v1]
    simp [Instr.sliceAt, Instr.slice, run_under hu, hr]
  · show hh' - l = _
    rw [ByteArray.size_extract]
    omega
  · show sCut (X.v ρ env).b l (hh' - l) = _
    rw [← q2, sCut_enc _ (bytesOf_lt s), bytesOf_extract]
end
end Go.Ev
namespace Go.Ev
open Go

theorem freeze_heap {w : World} {c p n : Nat} {arr : Array Value} {elem lo hi : Nat} (h : w.heap[c]? = some (.cells arr elem (lo, hi))) :
    (∃ lo' hi', (w.freeze ⟨c, p, none⟩ n).heap[c]? = some (.cells arr elem (lo', hi'))) ∧ (∀ k, k ≠ c → (w.freeze ⟨c, p, none⟩ n).heap[k]? = w.heap[k]?) ∧ (w.freeze ⟨c, p, none⟩ n).heap.size = w.heap.size ∧
    (w.freeze ⟨c, p, none⟩ n).os = w.os ∧ (w.freeze ⟨c, p, none⟩ n).tape = w.tape ∧ (w.freeze ⟨c, p, none⟩ n).output = w.output := by
  unfold World.freeze
  split
  · exact ⟨⟨lo, hi, h⟩, fun _ _ => rfl, rfl, rfl, rfl, rfl⟩
  · refine ⟨?_, fun k hk => ?_, by simp, rfl, rfl, rfl⟩
    · simp only [Array.getElem?_modify, if_true, h, Option.map_some]
      split
      · exact ⟨_, _, rfl⟩
      · exact ⟨_, _, rfl⟩
    · simp only [Array.getElem?_modify]
      rw [if_neg (Ne.symm hk)]

/-- A FAMILY IS FROZEN. -/
theorem Rel.freezeFam {G : Gh} {h : Hp} {w : World} (r : Rel G h w) {f : Id} {m : Nat} (hg : (h f).g = 1) (hz : (h f).z = false) {c off en : Nat} (hb : G.β f m = some (c, off, en)) (h1 : (h f).b ≤ m) (h2 : m ≤ (h f).a) (p n : Nat) :
    Sim G h w G (Hp.up h f ⟨1, (h f).a, (h f).b, (h f).t, true, (h f).cells, []⟩) (w.freeze ⟨c, p, none⟩ n) := by
  obtain ⟨_, _, _, arr, elem, lo, hi, ha, _⟩ := r.member hg h1 h2 hb
  obtain ⟨⟨lo', hi', e1⟩, e2, e3, e4, e5, e6⟩ := freeze_heap (p := p) (n := n) ha
  refine ⟨G.le_refl, ⟨fun f' m x hx => ?_, r.uniq, fun f' => ?_⟩, e4, e5, e6, by omega, fun k hk hi => ?_, fun f' m x hx _ => ⟨m, x, hx, rfl⟩, up_frz _ _ _ fun _ => rfl, up_keep _ _ _ (by omega) (by simp), Nat.le_refl _, fun _ _ _ _ => rfl⟩
  · obtain ⟨d1, d2, d3⟩ := r.dom f' m x hx
    by_cases hff : f' = f
    · subst hff
      rw [Hp.up_same]
      exact ⟨d1, by omega, fun _ => d3 hg⟩
    · rw [Hp.up_ne _ _ hff]
      exact ⟨d1, by omega, d3⟩
  · by_cases hff : f' = f
    · subst hff
      rw [Hp.up_same]
      obtain ⟨l1, l2, l3⟩ := (r.obj f').1 hg
      refine ⟨fun _ => ⟨l1, fun m' a b => ?_, l3⟩, fun h => by simp at h, fun h => by simp at h⟩
      obtain ⟨c', off', en', b1, b2, b3, b4, arr', elem', lo1, hi1, b5, b6, b7, b8, b9, b10⟩ := l2 m' a b
      by_cases hc : c' = c
      · subst hc
        rw [ha] at b5
        cases b5
        exact ⟨c', off', en', b1, b2, b3, b4, _, _, lo', hi', e1, b6, b7, b8, fun h => by simp at h, b10⟩
      · exact ⟨c', off', en', b1, b2, b3, b4, arr', elem', lo1, hi1, by rw [e2 _ hc]; exact b5, b6, b7, b8, fun h => by simp at h, b10⟩
    · rw [Hp.up_ne _ _ hff]
      obtain ⟨o1, o2, o3⟩ := r.obj f'
      have hne : ∀ m x, G.β f' m = some x → x.1 ≠ c := fun m x hx hc => hff (r.uniq f' m x f _ _ hx hb hc).1
      refine ⟨fun hg' => ?_, fun hg' => ?_, fun hg' => ?_⟩
      · obtain ⟨l1, l2, l3⟩ := o1 hg'
        refine ⟨l1, fun m hm1 hm2 => ?_, l3⟩
        obtain ⟨c', off', en', b1, b2, b3, b4, arr', elem', lo1, hi1, b5, b6⟩ := l2 m hm1 hm2
        exact ⟨c', off', en', b1, b2, b3, b4, arr', elem', lo1, hi1, by rw [e2 _ (hne _ _ b1)]; exact b5, b6⟩
      · obtain ⟨c', es, b1, b2, b3⟩ := o2 hg'
        exact ⟨c', es, b1, by rw [e2 _ (hne _ _ b1)]; exact b2, b3⟩
      · obtain ⟨c', s, b1, b2, b3⟩ := o3 hg'
        exact ⟨c', s, b1, by rw [e2 _ (hne _ _ b1)]; exact b2, b3⟩
  · by_cases hkc : k = c
    · subst hkc
      exact absurd ⟨f, _, _, hb, rfl, by omega, hz⟩ hi
    · exact e2 k hkc

/- bytes out of cells -/
theorem bytes_ok {A : Ans} (hA : A ≠ .bad) : ∀ {cs : List AV} {k : Nat → Ans}, byteCellsK cs k = A → ∃ s, k s = A ∧ ∀ (G : Gh) (vs : List Value), VRs G cs vs → ∃ l : List UInt8, vs = Go.Lib.byteCells l ∧ enc (l.map (·.toNat)) = s
  | [], k, h => ⟨0, h, fun G vs hv => by cases hv; exact ⟨[], rfl, rfl⟩⟩
  | x :: cs, k, h => by
    have h' : (x.intK fun j n => whenK (Nat.beq j 4) (natK n fun b => whenK (Nat.blt b 256) (byteCellsK cs fun s => k (Nat.add b (Nat.mul 256 s))))) = A := h
    obtain ⟨g, h'⟩ := p_int h' hA
    obtain ⟨e, h'⟩ := p_when h' hA
    rw [beq_iff] at e
    obtain ⟨b, hb, h'⟩ := p_nat h' hA
    obtain ⟨e2, h'⟩ := p_when h' hA
    rw [blt_iff] at e2
    obtain ⟨s, h', hs⟩ := bytes_ok hA h'
    refine ⟨_, h', fun G vs hv => ?_⟩
    cases hv with
    | cons hx ht =>
      obtain ⟨l, rfl, hl⟩ := hs G _ ht
      obtain ⟨v, _⟩ := hx.i3 g
      refine ⟨UInt8.ofNat b :: l, ?_, ?_⟩
      · rw [v, e, hb]
        have : (UInt8.ofNat b).toNat = b := by simp [UInt8.toNat_ofNat']; omega
        show _ :: _ = Value.int .u8 ((UInt8.ofNat b).toNat : Int) :: _
        rw [this]; rfl
      · have : (UInt8.ofNat b).toNat = b := by simp [UInt8.toNat_ofNat']; omega
        show (UInt8.ofNat b).toNat + 256 * enc (l.map (·.toNat)) = _
        rw [this, hl]; rfl
end Go.Ev
namespace Go.Ev
open Go

theorem blt_dec (a b : Nat) : Nat.blt a b = decide (a < b) := by rw [Bool.eq_iff_iff, blt_iff]; simp
theorem ble_dec (a b : Nat) : Nat.ble a b = decide (a ≤ b) := by rw [Bool.eq_iff_iff, ble_iff]; simp
theorem beq_dec (a b : Nat) : Nat.beq a b = (a == b) := by rw [Bool.eq_iff_iff, beq_iff]; simp
theorem validR_eq (r : Nat) : validR r = Utf8.valid (r : Int) := by
  unfold validR Utf8.valid
  rw [blt_dec, ble_dec, ble_dec, Bool.eq_iff_iff]
  simp
  omega
theorem sAt_get (s : ByteArray) (i : Nat) : sAt (enc (bytesOf s)) i = (s.get! i).toNat := by
  by_cases h : i < s.size
  · have hg : (bytesOf s)[i]? = some (s.get! i).toNat := by
      rw [bytesOf_get]
      have : s.data[i]? = some s.data[i]! := by rw [getElem!_pos s.data i h]; exact Array.getElem?_eq_getElem h
      rw [this]; rfl
    exact sAt_enc _ (bytesOf_lt s) i _ hg
  · have h1 : (s.get! i) = 0 := by
      show s.data[i]! = 0
      rw [getElem!_neg s.data i h]; rfl
    have h2 : (bytesOf s).drop i = [] := List.drop_eq_nil_of_le (by rw [bytesOf_length]; omega)
    unfold sAt
    rw [div_pow8, enc_div _ (bytesOf_lt s), h2, h1]
    rfl
theorem decS_eq (s : ByteArray) (i : Nat) : decS s.size (enc (bytesOf s)) i = Utf8.decode s i := by
  unfold decS Utf8.decode
  simp only [sAt_get, blt_dec, ble_dec, beq_dec, validR_eq, Bool.and_assoc, Bool.and_eq_true, decide_eq_true_eq, ge_iff_le, Utf8.runeError]

theorem run_getIter {P : Program} {w : World} {r : Nat} {s : ByteArray} {p : Nat} (hb : w.heap[r]? = some (.stringIter s p)) : (getObj r).run P w = .ok (.stringIter s p) w := by
  simp [getObj, Sem.run, hb]
theorem run_setIter {P : Program} {w : World} {r : Nat} {s : ByteArray} {p : Nat} (o : Go.Obj) (hb : w.heap[r]? = some (.stringIter s p)) : (setObj r o).run P w = .ok () { w with heap := w.heap.setIfInBounds r o } := by
  simp [setObj, Sem.run, hb]

section
variable {P : Program} {o : Oper} {c : Operand → Option Opd}

theorem range_d {t : TypeId} {x : Operand} {X : Opd} (ho : o.op = .range t x) (hx : c x = some X) (hu : P.underlying t = some .string) : DoesM P o c (hRange X) := fun call ρ env st k A h hA => by
  simp only [hRange] at h
  obtain ⟨g, h⟩ := p_str h hA
  obtain ⟨g0, h⟩ := p_new h hA
  refine ⟨_, _, h, does_value fun G w a hE hR => ?_⟩
  obtain ⟨s, v1, q1, q2⟩ := (hE x (by simp [ho, Op.operands]) _ hx).i4 g
  have sim := hR.newIter g0 s
  rw [q1, q2] at sim
  refine ⟨.pointer (some ⟨w.heap.size, 0, none⟩), _, _, ?_, by rw [St.h_add']; exact sim, .itr _ _ _ _ rfl (Gh.put_same _ _ _ _ _)⟩
  simp [execOp, ho, Instr.range, run_under hu, v1]

theorem next_d {x : Operand} {X : Opd} (ho : o.op = .next x true) (hx : c x = some X) : DoesM P o c (hNext X) := fun call ρ env st k A h hA => by
  simp only [hNext] at h
  obtain ⟨g, h⟩ := p_itr h hA
  obtain ⟨⟨g3, gz⟩, h⟩ := p_iter h hA
  have key : ∀ (G : Gh) (w : World) (a : Act), EnvOK G c ρ env a o.op.operands → Rel G st.h w → ∃ cc s, a.eval x = .pointer (some ⟨cc, 0, none⟩) ∧ G.β (X.v ρ env).f 0 = some (cc, 0, 0) ∧ w.heap[cc]? = some (.stringIter s (st.h (X.v ρ env).f).t) ∧ s.size = (st.h (X.v ρ env).f).a ∧ enc (bytesOf s) = (st.h (X.v ρ env).f).b := fun G w a hE hR => by
    obtain ⟨cc, off, en, b1, b2⟩ := (hE x (by simp [ho, Op.operands]) _ hx).i11 g
    obtain ⟨c', s, k1, k2, k3, k4⟩ := (hR.obj _).2.2 g3
    rw [b2] at k1
    cases k1
    exact ⟨cc, s, b1, b2, k2, k3, k4⟩
  rcases p_asel h with ⟨e, h⟩ | ⟨e, h⟩
  · rw [blt_iff] at e
    rw [fN_eq, fN_eq, putK_eq] at h
    refine ⟨_, _, h, does_value fun G w a hE hR => ?_⟩
    obtain ⟨cc, s, b1, b2, k2, k3, k4⟩ := key G w a hE hR
    have hd : decS (st.h (X.v ρ env).f).a (st.h (X.v ρ env).f).b (st.h (X.v ρ env).f).t = Utf8.decode s (st.h (X.v ρ env).f).t := by rw [← k3, ← k4]; exact decS_eq s _
    have sim := hR.setObj (f := (X.v ρ env).f) (.inr g3) gz b2 ⟨3, (st.h (X.v ρ env).f).a, (st.h (X.v ρ env).f).b, (st.h (X.v ρ env).f).t + (Utf8.decode s (st.h (X.v ρ env).f).t).2, false, [], []⟩ (.inr rfl) rfl (.stringIter s ((st.h (X.v ρ env).f).t + (Utf8.decode s (st.h (X.v ρ env).f).t).2))
      (fun w' hw' => ⟨fun h => by simp at h, fun h => by simp at h, fun _ => ⟨cc, s, b2, hw', k3, k4⟩⟩)
    refine ⟨.tuple #[.bool true, goInt (st.h (X.v ρ env).f).t, .int .i32 (Utf8.decode s (st.h (X.v ρ env).f).t).1], _, G, ?_, by rw [St.h_set', hd]; exact sim, .tup _ _ rfl (.cons (VR.mkBool true _ rfl rfl) (.cons (VR.goInt G _) (.cons (VR.mkInt .i32 _ _ rfl rfl ?_) .nil)))⟩
    · have hlt : (st.h (X.v ρ env).f).t < s.size := by rw [k3]; exact e
      simp [execOp, ho, Instr.next, b1, run_getIter k2, hlt, run_setIter _ k2]
    · rw [hd]; rfl
  · refine ⟨_, _, h, does_value fun G w a hE hR => ?_⟩
    obtain ⟨cc, s, b1, b2, k2, k3, k4⟩ := key G w a hE hR
    refine ⟨.tuple #[.bool false], w, G, ?_, Sim.refl hR, .tup _ _ rfl (.cons (VR.mkBool false _ rfl rfl) .nil)⟩
    have hlt : ¬ (st.h (X.v ρ env).f).t < s.size := fun hh => by
      rw [k3] at hh
      have := (blt_iff _ _).2 hh
      exact Bool.noConfusion (this.symm.trans e)
    simp [execOp, ho, Instr.next, b1, run_getIter k2, hlt]

theorem exec_conv {src dst : TypeId} {x : Operand} (ho : o.op = .convert src dst x) (a : Act) (w w' : World) (v : Value) (h : (convert src dst (a.eval x)).run P w = .ok v w') : (execOp a.eval o).run P w = .ok (.value v) w' := by
  simp [execOp, ho, h]

theorem convInt_p {src dst : TypeId} {x : Operand} {X : Opd} {s : TypeDesc} {k : IntKind} (ho : o.op = .convert src dst x) (hx : c x = some X) (hs : P.underlying src = some s) (hd : P.underlying dst = some (.int k)) : PureM P o c (hConvInt (kno k) X) := fun call ρ env st kk A h hA => by
  simp only [hConvInt] at h
  obtain ⟨g, h⟩ := p_int h hA
  rw [kInt_eq] at h
  refine ⟨_, h, fun G a hE => ?_⟩
  obtain ⟨v1, _⟩ := (hE x (by simp [ho, Op.operands]) _ hx).i3 g
  refine ⟨.int k (k.wrap (X.v ρ env).i), fun w => exec_conv ho a w w _ ?_, VR.mkInt _ _ _ rfl rfl (wrapF_eq k _)⟩
  simp only [convert, Sem.run_bind, run_under hs, run_under hd, Result.andThen_ok, v1]
  cases s <;> simp [Conv.intToInt]

theorem convStr_p {src dst : TypeId} {x : Operand} {X : Opd} {s : TypeDesc} (ho : o.op = .convert src dst x) (hx : c x = some X) (hs : P.underlying src = some s) (hd : P.underlying dst = some .string) (hns : ∀ e, s ≠ .slice e) : PureM P o c (hConvStr X) := fun call ρ env st k A h hA => by
  simp only [hConvStr] at h
  rcases p_asel h with ⟨g, h⟩ | ⟨_, h⟩
  · rw [beq_iff] at g
    rw [fV_eq] at h
    refine ⟨_, h, fun G a hE => ?_⟩
    obtain ⟨v1, _⟩ := (hE x (by simp [ho, Op.operands]) _ hx).i3 g
    refine ⟨.string (Utf8.encode (X.v ρ env).i), fun w => exec_conv ho a w w _ ?_, strAV_ok _ _⟩
    simp only [convert, Sem.run_bind, run_under hs, run_under hd, Result.andThen_ok, v1]
    cases s <;> simp [Conv.intToString]
  · obtain ⟨g, h⟩ := p_str h hA
    rw [kStr_eq] at h
    refine ⟨_, h, fun G a hE => ?_⟩
    obtain ⟨t, v1, q1, q2⟩ := (hE x (by simp [ho, Op.operands]) _ hx).i4 g
    refine ⟨.string t, fun w => exec_conv ho a w w _ ?_, VR.mkStr _ _ _ rfl q1.symm q2.symm⟩
    simp only [convert, Sem.run_bind, run_under hs, run_under hd, Result.andThen_ok, v1]
    cases s <;> simp

theorem push_all : ∀ (l : List UInt8) (s : ByteArray), ((l.map fun b => (b.toNat : Int)).foldl (fun r n => r.push (UInt8.ofNat n.toNat)) s) = ⟨s.data ++ l.toArray⟩
  | [], s => by simp
  | b :: l, s => by
    rw [List.map_cons, List.foldl_cons, push_all l]
    apply ByteArray.ext
    simp [ByteArray.push]

theorem bytesStr_l {src dst el : TypeId} {x : Operand} {X : Opd} (ho : o.op = .convert src dst x) (hx : c x = some X) (hs : P.underlying src = some (.slice el)) (he : P.underlying el = some (.int .u8)) (hd : P.underlying dst = some .string) : LooksM P o c (hBytesStr X) := fun call ρ env st k A h hA => by
  have memx : x ∈ o.op.operands := by simp [ho, Op.operands]
  have hrun : ∀ (a : Act) (w : World) (b : Option Addr) (n q : Nat) (v : Value), a.eval x = .slice b n q → (Conv.bytesToString (.slice b n q)).run P w = .ok v w → (execOp a.eval o).run P w = .ok (.value v) w := fun a w b n q v hv hr => by
    refine exec_conv ho a w w _ ?_
    rw [hv]
    simp only [convert, Sem.run_bind, run_under hs, run_under hd, Result.andThen_ok]
    cases b <;> simp [run_under he, hr]
  simp only [hBytesStr] at h
  rcases p_sl h hA with ⟨g, h⟩ | ⟨g, h⟩
  · obtain ⟨e1, h⟩ := p_when h hA
    rw [beq_iff] at e1
    rcases p_asel h with ⟨z, h⟩ | ⟨z, h⟩
    · rw [beq_iff] at z
      rw [kStr_eq] at h
      refine ⟨_, h, fun G w a hE hR => ?_⟩
      obtain ⟨cc, off, en, p, q, b1, b2, b3⟩ := (hE x memx _ hx).i8 g
      refine ⟨.string .empty, hrun a w _ _ _ _ b2 ?_, VR.mkStr _ _ _ rfl rfl rfl⟩
      rw [z]
      have hl : (loadCells ⟨cc, p, none⟩ 0).run P w = .ok (([] : List Int).map (Value.int .u8)).toArray w := by simpa using run_loadCells_list (P := P) w ⟨cc, p, none⟩ [] (by simp)
      exact run_bytesToString w _ 0 q [] hl
    · have hz : (X.v ρ env).c ≠ 0 := fun e => by rw [e] at z; cases z
      obtain ⟨f1, f2, f3, f4, h⟩ := p_read h hA
      obtain ⟨s, h, hb⟩ := bytes_ok hA h
      rw [kStr_eq] at h
      refine ⟨_, h, fun G w a hE hR => ?_⟩
      obtain ⟨cc, p, q, b2, vs, v1, v2, v3⟩ := sl_cells hR ((hE x memx _ hx).i8 g) hz f1 f2 f3
      rw [e1, Nat.mul_one] at v1 v2
      obtain ⟨l, hl, hs2⟩ := hb G vs v2
      have hll : l.length = (X.v ρ env).c := by rw [← v1, hl]; simp [Go.Lib.byteCells]
      refine ⟨.string ⟨l.toArray⟩, hrun a w _ _ _ _ b2 ?_, VR.mkStr _ _ _ rfl ?_ ?_⟩
      · have hlc := run_loadCells_list (P := P) w ⟨cc, p, none⟩ vs v3
        rw [v1] at hlc
        have := run_bytesToString (P := P) w ⟨cc, p, none⟩ (X.v ρ env).c q (l.map fun b => (b.toNat : Int)) (by rw [hlc, hl]; simp [Go.Lib.byteCells, List.map_map, Function.comp_def])
        rw [this, push_all]
        simp
      · show (X.v ρ env).c = l.toArray.size
        simp [hll]
      · show s = enc (l.toArray.toList.map (·.toNat))
        simpa using hs2.symm
  · rw [kStr_eq] at h
    refine ⟨_, h, fun G w a hE hR => ⟨.string .empty, hrun a w _ _ _ _ ((hE x memx _ hx).i7 g) rfl, VR.mkStr _ _ _ rfl rfl rfl⟩⟩
end
end Go.Ev
namespace Go.Ev
open Go

theorem modify_push {α : Type} (a : Array α) (x : α) (f : α → α) : (a.push x).modify a.size f = a.push (f x) := by
  apply Array.ext
  · simp
  · intro i h1 h2
    rw [Array.getElem_modify]
    by_cases e : a.size = i
    · subst e; simp
    · have : i < a.size := by simp at h2; omega
      simp [Array.getElem_push, this, e]

section
variable {P : Program} {o : Oper} {c : Operand → Option Opd}

theorem strBytes_d {src dst el : TypeId} {x : Operand} {X : Opd} (ho : o.op = .convert src dst x) (hx : c x = some X) (hs : P.underlying src = some .string) (he : P.underlying el = some (.int .u8)) (hd : P.underlying dst = some (.slice el)) : DoesM P o c (hStrBytes el X) := fun call ρ env st k A h hA => by
  simp only [hStrBytes] at h
  obtain ⟨g, h⟩ := p_str h hA
  obtain ⟨e0, h⟩ := p_when h hA
  rw [blt_iff] at e0
  rw [byteCellsK2_eq] at h
  unfold newCellsK at h
  obtain ⟨g0, h⟩ := p_new h hA
  rw [kSl_eq] at h
  refine ⟨_, _, h, does_value fun G w a hE hR => ?_⟩
  obtain ⟨s, v1, q1, q2⟩ := (hE x (by simp [ho, Op.operands]) _ hx).i4 g
  have hb := byteCells_ok G s
  rw [q1, q2] at hb
  have hl := hb.length
  have hcap := cap_ge w s.size 0 el
  have hbl : (byteCells s).length = s.size := byteCells_length s
  have hsz : ((byteCells s).toArray ++ Array.replicate (grownCap w s.size 0 el - s.size) (Value.int .u8 0)).size = grownCap w s.size 0 el := by
    simp [hbl]; omega
  have sim := hR.drew.newRow g0 (byteCellsOf (X.v ρ env).a (X.v ρ env).b) ((byteCells s).toArray ++ Array.replicate (grownCap w s.size 0 el - s.size) (Value.int .u8 0)) el (grownCap w s.size 0 el) (grownCap w s.size 0 el + 1) (by rw [hsz]; omega) (fun x a' hxa => grown_row hb _ x a' hxa) (fun p hp => by rw [hsz] at hp; omega)
  refine ⟨.slice (some ⟨w.heap.size, 0, none⟩) s.size (grownCap w s.size 0 el), _, _, exec_conv ho a w _ _ ?_, by rw [St.h_add']; exact Sim.trans hR (Sim.drew hR) sim, .sl _ _ rfl ⟨w.heap.size, 0, (byteCellsOf (X.v ρ env).a (X.v ρ env).b).length, 0, grownCap w s.size 0 el, Gh.put_same _ _ _ _ _, by rw [← q1], by rw [← q1]; exact hcap, .inl rfl, Nat.one_pos, .inr ⟨Nat.le_refl _, rfl, ?_, ?_⟩⟩⟩
  · have hf : (Question.appendCap s.size 0 el).forced = false := by
      have : s.size ≠ 0 := by omega
      simp [Question.forced]
    have helems : (byteCells s).toArray = s.data.map fun b => Value.int .u8 b.toNat := by
      apply Array.ext'; simp [byteCells]
    rw [helems] at hsz ⊢
    have hch : (choose (.appendCap s.size 0 el)).run P w = .ok (grownCap w s.size 0 el) w.drew := by
      rw [Go.run_choose, if_neg (by rw [hf]; simp)]; rfl
    generalize hrow : ((s.data.map fun b => Value.int .u8 b.toNat) ++ Array.replicate (grownCap w s.size 0 el - s.size) (Value.int .u8 0)) = row at hsz ⊢
    have hshape : (w.drew.alloc (.cells row el)).shape? w.drew.heap.size = some (el, row.size) := by
      simp only [World.shape?, alloc_here]
    have hfz : (w.drew.alloc (.cells row el)).freeze ⟨w.drew.heap.size, row.size, none⟩ 1 = w.drew.alloc (.cells row el (row.size, row.size + 1)) := by
      unfold World.freeze
      rw [if_neg (by omega)]
      have : ∀ h1 h2 : Array Go.Obj, h1 = h2 → ({ w.drew with heap := h1 } : World) = { w.drew with heap := h2 } := fun _ _ e => by rw [e]
      refine this _ _ ?_
      show (w.drew.heap.push (.cells row el)).modify w.drew.heap.size _ = _
      rw [modify_push]
      simp
    have hmk : (markStringish ⟨w.drew.heap.size, 0, none⟩).run P (w.drew.alloc (.cells row el)) = .ok () (w.drew.alloc (.cells row el (row.size, row.size + 1))) := by
      simp only [markStringish, Sem.run_bind, run_shape, hshape, Result.andThen_ok, run_freeze, hfz]
    have hnr : (newRow el row).run P w.drew = .ok ⟨w.drew.heap.size, 0, none⟩ (w.drew.alloc (.cells row el)) := by simp [newRow]; rfl
    simp only [convert, run_under hs, run_under hd, v1, run_under he, Conv.stringToBytes, Sem.run_bind, Result.andThen_ok, hch, hrow, hnr, hmk, Sem.run_pure]
    rw [hsz]
    rfl
  · show 0 + (X.v ρ env).a * 1 ≤ _
    omega
  · show 0 + grownCap w s.size 0 el * 1 ≤ (if _ then _ else _)
    rw [if_pos rfl, hsz]; omega

theorem seen_run {a : Addr} {w : World} {sh : TypeId × Nat} (h : w.shape? a.block = some sh) : (Conv.seenAt a).run P w = .ok a w := by
  simp [Conv.seenAt, viewAt, h]

theorem toUnsafe_l {src dst t : TypeId} {n : Nat} {x : Operand} {X : Opd} (ho : o.op = .convert src dst x) (hx : c x = some X) (hs : P.underlying src = some (.pointer t)) (hn : sizeOf? P t = some n) (h0 : 0 < n) (hd : P.underlying dst = some .unsafePointer) : LooksM P o c (hToUnsafe X) := fun call ρ env st k A h hA => by
  simp only [hToUnsafe] at h
  obtain ⟨g, h⟩ := p_ptr h hA
  obtain ⟨f0, h⟩ := p_fam h hA
  obtain ⟨e, h⟩ := p_when h hA
  rw [nand_eq, nand_eq, Bool.and_eq_true, Bool.and_eq_true, blt_iff, ble_iff, ble_iff] at e
  obtain ⟨e1, f1, f2⟩ := e
  rw [fV_eq] at h
  refine ⟨_, h, fun G w a hE hR => ?_⟩
  have hv := hE x (by simp [ho, Op.operands]) _ hx
  obtain ⟨cc, off, en, b1, b2, b3, b4⟩ := hv.i6 g
  obtain ⟨_, _, _, arr, elem, lo, hi, ha, hsz, hle, _⟩ := hR.member f0 f1 f2 b1
  refine ⟨a.eval x, exec_conv ho a w w _ ?_, hv⟩
  have hsh : w.shape? cc = some (elem, arr.size) := by simp [World.shape?, ha]
  have hlt : ¬ arr.size ≤ (X.v ρ env).b - off := by omega
  have hn0 : n ≠ 0 := by omega
  rw [b4]
  have hseen := seen_run (P := P) (a := ⟨cc, (X.v ρ env).b - off, none⟩) (w := w) (sh := (elem, arr.size)) hsh
  simp [convert, run_under hs, run_under hd, Conv.unsafePointer, hseen, cellsIn, hsh, run_size hn, hn0, hlt]

theorem cellsOf_size {u n : Nat} (h : sizeOf? P u = some n) : P.cellsOf u = n := by
  unfold sizeOf? at h
  unfold Program.cellsOf
  rw [h]; rfl
theorem lies_one {u n count : Nat} (h : P.cellsOf u = n) (h0 : 0 < n) (hc : 1 ≤ count) : liesAt P P.depth u count 0 u 1 = true := by
  have hd : P.depth = (2 * (P.types.size + Made.depth) + 1) + 1 := rfl
  rw [hd]
  simp only [liesAt, Bool.or_eq_true]
  left
  rw [hd]
  have : n ≠ 0 := by omega
  simp [rowAt, h, this, hc, sameLayout]

theorem ofUnsafe_l {src dst u : TypeId} {n : Nat} {x : Operand} {X : Opd} (ho : o.op = .convert src dst x) (hx : c x = some X) (hs : P.underlying src = some .unsafePointer) (hn : sizeOf? P u = some n) (h0 : 0 < n) (hd : P.underlying dst = some (.pointer u)) : LooksM P o c (hOfUnsafe u n X) := fun call ρ env st k A h hA => by
  simp only [hOfUnsafe] at h
  obtain ⟨g, h⟩ := p_ptr h hA
  obtain ⟨f0, h⟩ := p_fam h hA
  obtain ⟨e, h⟩ := p_when h hA
  rw [nand_eq, nand_eq, nand_eq, nand_eq, Bool.and_eq_true, Bool.and_eq_true, Bool.and_eq_true, Bool.and_eq_true, beq_iff, beq_iff, ble_iff, ble_iff, ble_iff] at e
  obtain ⟨⟨f1, f2⟩, e1, e2, e3⟩ := e
  rw [fV_eq] at h
  refine ⟨_, h, fun G w a hE hR => ?_⟩
  have hv := hE x (by simp [ho, Op.operands]) _ hx
  obtain ⟨cc, off, en, b1, b2, b3, b4⟩ := hv.i6 g
  obtain ⟨_, _, _, arr, elem, lo, hi, ha, hsz, hle, ht, _⟩ := hR.member f0 f1 f2 b1
  have helem : elem = u := by
    have := ht (by rw [e2]; simp)
    rw [e2] at this
    simpa using this.symm
  subst helem
  have hsh : w.shape? cc = some (elem, arr.size) := by simp [World.shape?, ha]
  have hoff : (X.v ρ env).b - off = 0 := by omega
  have hcs := cellsOf_size hn
  have hcount : 1 ≤ arr.size / P.cellsOf elem := by
    rw [hcs]
    exact Nat.div_pos (by omega) h0
  have hlies := lies_one (P := P) hcs h0 hcount
  refine ⟨a.eval x, exec_conv ho a w w _ ?_, hv⟩
  have hn0 : n ≠ 0 := by omega
  rw [b4, hoff]
  have hseen := seen_run (P := P) (a := ⟨cc, 0, none⟩) (w := w) (sh := (elem, arr.size)) hsh
  simp [convert, run_under hs, run_under hd, Conv.unsafePointer, hseen, run_size hn, hn0, variablesAt, hsh, hlies]

theorem unsafeStr_d {cl : Call} {S N : Operand} {S' N' : Opd} {t t2 : TypeId} (ho : o.op = .call cl) (hb : cl.callee = .builtin .unsafeString) (hargs : cl.args = #[S, N]) (hty : cl.argTypes = #[t, t2]) (hx : c S = some S') (hn : c N = some N') : DoesM P o c (cUnsafeStr P t S' N') := by
  have memS : S ∈ o.op.operands := by simp [ho, Op.operands, Call.operands, hb, hargs]
  have memN : N ∈ o.op.operands := by simp [ho, Op.operands, Call.operands, hb, hargs]
  have hrun : ∀ (a : Act) (w w' : World) (v : Value), (Builtin.unsafeString_ #[t, t2] o.type #[a.eval S, a.eval N]).run P w = .ok v w' → (execOp a.eval o).run P w = .ok (.value v) w' := fun a w w' v hv => by
    refine run_builtin ho hb a w _ ?_
    simp [builtin, hargs, hty, hv]
  unfold cUnsafeStr
  split
  · rename_i u hu
    split
    · rename_i hc1
      intro call ρ env st k A h hA
      simp only [hUnsafeStr] at h
      obtain ⟨gn, h⟩ := p_int h hA
      obtain ⟨ek, h⟩ := p_when h hA
      rw [beq_iff] at ek
      obtain ⟨j, hj, h⟩ := p_nat h hA
      have hN : ∀ (G : Gh) (a : Act), EnvOK G c ρ env a o.op.operands → a.eval N = .int .i64 (j : Int) := fun G a hE => by
        obtain ⟨v1, _⟩ := (hE N memN _ hn).i3 gn
        rw [v1, ek, hj]; rfl
      rcases p_asel h with ⟨g, h⟩ | ⟨_, h⟩
      · rw [beq_iff] at g
        obtain ⟨e, h⟩ := p_when h hA
        rw [beq_iff] at e
        subst e
        rw [kStr_eq] at h
        refine ⟨_, _, h, does_value fun G w a hE hR => ?_⟩
        refine ⟨.string .empty, w, G, hrun a w w _ ?_, Sim.refl hR, VR.mkStr _ _ _ rfl rfl rfl⟩
        rw [(hE S memS _ hx).i5 g, hN G a hE]
        exact Lib.run_unsafeString_none w t t2 o.type none
      · obtain ⟨g, h⟩ := p_ptr h hA
        obtain ⟨e, h⟩ := p_when h hA
        rw [nand_eq, nand_eq, nand_eq, Bool.and_eq_true, Bool.and_eq_true, Bool.and_eq_true, blt_iff, blt_iff, beq_iff, ble_iff] at e
        obtain ⟨⟨e1, e2⟩, e3, e4⟩ := e
        obtain ⟨f1, f2, f3, f4, h⟩ := p_read h hA
        obtain ⟨s, h, hbs⟩ := bytes_ok hA h
        obtain ⟨_, h⟩ := p_fam h hA
        obtain ⟨e5, h⟩ := p_when h hA
        rw [nand_eq, nnot_eq, Bool.and_eq_true, beq_iff, Bool.not_eq_true'] at e5
        obtain ⟨fz, e6⟩ := e5
        rw [putK_eq, kStr_eq] at h
        refine ⟨_, _, h, does_value fun G w a hE hR => ?_⟩
        obtain ⟨cc, off, en, b1, b2, b3, b4⟩ := (hE S memS _ hx).i6 g
        obtain ⟨_, _, _, arr, elem, lo, hi, ha, hsz, hle, ht, _⟩ := hR.member f1 f2 f3 b1
        have helem : elem = u := by
          have := ht (by rw [e6]; simp)
          rw [e6] at this
          simpa using this.symm
        subst helem
        obtain ⟨vs, v1, v2, v3⟩ := hR.cells f1 f2 f3 b1 b2 (n := j) (by omega)
        obtain ⟨l, hl, hs2⟩ := hbs G vs v2
        have hll : l.length = j := by rw [← v1, hl]; simp [Go.Lib.byteCells]
        have hoff : (S'.v ρ env).b - off = 0 := by omega
        have hsh : w.shape? cc = some (elem, arr.size) := by simp [World.shape?, ha]
        have hr := Lib.run_unsafeString_row (P := P) w t t2 o.type elem hu hc1 cc arr.size hsh l (fun e => by rw [e] at hll; simp at hll; omega) (by omega) (by omega) (fun i x hx => by
          rw [add_lit]
          have := v3 i (.int .u8 x.toNat) (by rw [hl]; simp [Go.Lib.byteCells, hx])
          rw [hoff] at this
          exact this)
        rw [hll] at hr
        have sim := hR.freezeFam f1 fz b1 f2 f3 0 j
        refine ⟨.string ⟨l.toArray⟩, _, G, hrun a w _ _ ?_, by rw [St.h_set']; exact sim, VR.mkStr _ _ _ rfl ?_ ?_⟩
        · rw [b4, hoff, hN G a hE]
          exact hr
        · show j = l.toArray.size
          simp [hll]
        · show s = enc (l.toArray.toList.map (·.toNat))
          simpa using hs2.symm
    · exact bad_does
  · exact bad_does
end
end Go.Ev
namespace Go.Ev
open Go

def KeyD (d : TypeDesc) (g : Nat) : Prop := (∃ k, d = .int k ∧ g = 3) ∨ (d = .string ∧ g = 4)

theorem keyT_ok {P : Program} {kt : TypeId} {g : Nat} (h : keyT P kt = some g) : ∃ d, P.underlying kt = some d ∧ KeyD d g := by
  unfold keyT at h
  split at h
  · rename_i k hk; cases h; exact ⟨_, hk, .inl ⟨k, rfl, rfl⟩⟩
  · rename_i hk; cases h; exact ⟨_, hk, .inr ⟨rfl, rfl⟩⟩
  · cases h

theorem run_check {P : Program} {kt : TypeId} {d : TypeDesc} {g : Nat} (hu : P.underlying kt = some d) (hd : KeyD d g) {G : Gh} {q : AV} {v : Value} (hg : q.g = g) (h : VR G q v) (b : Bool) (w : World) : (Instr.checkKey b 10000 kt v).run P w = .ok () w := by
  show (Instr.checkKey b (9999 + 1) kt v).run P w = _
  unfold Instr.checkKey
  simp only [Sem.run_bind, run_underlying hu, Result.andThen_ok]
  rcases hd with ⟨k, rfl, rfl⟩ | ⟨rfl, rfl⟩
  · obtain ⟨rfl, _⟩ := h.i3 hg; simp
  · obtain ⟨s, rfl, _⟩ := h.i4 hg; simp

/-- One key against another. -/
theorem key_ok {d : TypeDesc} {g : Nat} (hd : KeyD d g) {q y : AV} (hg : q.g = g) {k : Bool → Ans} {A : Ans} (h : cellEqK q y k = A) (hA : A ≠ .bad) :
    ∃ b, k b = A ∧ ∀ (G : Gh) (v u : Value), VR G q v → VR G y u → Instr.sameNow d v u = some b ∧ (b = true → u = v) := by
  unfold cellEqK at h
  rcases hd with ⟨kk, rfl, rfl⟩ | ⟨rfl, rfl⟩
  · rcases p_asel h with ⟨_, h⟩ | ⟨z, _⟩
    · obtain ⟨g1, h⟩ := p_int h hA
      obtain ⟨e, h⟩ := p_when h hA
      rw [beq_iff] at e
      refine ⟨_, h, fun G v u hv hu => ?_⟩
      obtain ⟨rfl, _⟩ := hv.i3 hg
      obtain ⟨rfl, _⟩ := hu.i3 g1
      rw [e]
      have : ieq q.i y.i = (q.i == y.i) := by rw [Bool.eq_iff_iff, ieq_iff]; simp
      refine ⟨by simp [Instr.sameNow, this], fun hb => ?_⟩
      rw [ieq_iff] at hb
      rw [hb]
    · rw [(beq_iff _ _).2 hg] at z; cases z
  · rcases p_asel h with ⟨z, _⟩ | ⟨_, h⟩
    · rw [beq_iff, hg] at z; cases z
    · rcases p_asel h with ⟨_, h⟩ | ⟨z, _⟩
      · obtain ⟨g1, h⟩ := p_str h hA
        refine ⟨_, h, fun G v u hv hu => ?_⟩
        obtain ⟨s, rfl, q1, q2⟩ := hv.i4 hg
        obtain ⟨t, rfl, q3, q4⟩ := hu.i4 g1
        rw [← q1, ← q2, ← q3, ← q4, seq_ok]
        have e : (s.toList == t.toList) = (s == t) := by
          rw [Bool.eq_iff_iff, MapKept.bytes_beq, toList_data, toList_data]
          constructor
          · intro h
            have h : s.data.toList = t.data.toList := by simpa using h
            cases s; cases t
            congr 1
            exact Array.toList_inj.1 h
          · rintro rfl; simp
        rw [e]
        refine ⟨rfl, fun hb => ?_⟩
        rw [MapKept.bytes_beq] at hb
        rw [hb]
      · rw [(beq_iff _ _).2 hg] at z; cases z

/-- A key among the entries. -/
theorem find_ok {d : TypeDesc} {g : Nat} (hd : KeyD d g) {q : AV} (hg : q.g = g) {no : Ans} {yes : Nat → AV → Ans} {A : Ans} (hA : A ≠ .bad) : ∀ {es : List Ent} {i : Nat}, findK q es i no yes = A →
    (no = A ∧ ∀ (G : Gh) (mes : List MapEntry) (v : Value), L2 (EntOK G) es mes → VR G q v → Instr.findNow d v mes i = some none) ∨
    (∃ j e, es[j]? = some e ∧ yes (i + j) e.val = A ∧ ∀ (G : Gh) (mes : List MapEntry) (v : Value), L2 (EntOK G) es mes → VR G q v → ∃ me, mes[j]? = some me ∧ EntOK G e me ∧ me.key = v ∧ Instr.findNow d v mes i = some (some (i + j, me.val)))
  | [], i, h => .inl ⟨h, fun G mes v hm hv => by cases hm; rfl⟩
  | x :: es, i, h => by
    have h' : cellEqK q x.key (fun b => asel b (yes i x.val) (findK q es (Nat.succ i) no yes)) = A := h
    obtain ⟨b, h', hb⟩ := key_ok hd hg h' hA
    cases b with
    | true =>
      refine .inr ⟨0, x, rfl, h', fun G mes v hm hv => ?_⟩
      cases hm with
      | cons hx ht =>
        rename_i me mes
        obtain ⟨s1, s2⟩ := hb G v me.key hv hx.1
        exact ⟨me, rfl, hx, s2 rfl, by simp [Instr.findNow, s1]⟩
    | false =>
      rcases find_ok hd hg hA (es := es) (i := Nat.succ i) h' with ⟨h1, h2⟩ | ⟨j, e, h1, h2, h3⟩
      · refine .inl ⟨h1, fun G mes v hm hv => ?_⟩
        cases hm with
        | cons hx ht =>
          rename_i me mes
          obtain ⟨s1, _⟩ := hb G v me.key hv hx.1
          simp only [Instr.findNow, s1]
          exact h2 G mes v ht hv
      · refine .inr ⟨j + 1, e, h1, by rw [show i + (j + 1) = Nat.succ i + j from by omega]; exact h2, fun G mes v hm hv => ?_⟩
        cases hm with
        | cons hx ht =>
          rename_i me mes
          obtain ⟨s1, _⟩ := hb G v me.key hv hx.1
          obtain ⟨me', k1, k2, k3, k4⟩ := h3 G mes v ht hv
          refine ⟨me', k1, k2, k3, ?_⟩
          simp only [Instr.findNow, s1]
          rw [show i + (j + 1) = Nat.succ i + j from by omega]
          exact k4

section
variable {P : Program} {o : Oper} {c : Operand → Option Opd}

theorem VR.okv {G : Gh} {v : AV} {u : Value} (h : VR G v u) (ok b : Bool) : VR G (okV ok v b) (if ok then .tuple #[u, .bool b] else u) := by
  cases ok with
  | true => exact .tup _ _ rfl (.cons h (.cons (VR.mkBool b _ rfl (by cases b <;> rfl)) .nil))
  | false => exact h

theorem lookup_l {t : TypeId} {m q : Operand} {M' Q' : Opd} {ok : Bool} (ho : o.op = .lookup t m q ok) (hm : c m = some M') (hq : c q = some Q') : LooksM P o c (cLookup P t M' Q' ok) := by
  unfold cLookup
  split
  · rename_i kt et hu
    split
    · rename_i g hk
      split
      · rename_i z hz
        obtain ⟨d, hkd, hd⟩ := keyT_ok hk
        obtain ⟨inf, zv, i1, i2, i3⟩ := zero_ok hz
        have memm : m ∈ o.op.operands := by simp [ho, Op.operands]
        have memq : q ∈ o.op.operands := by simp [ho, Op.operands]
        have hzero : ∀ w, (zeroValue et).run P w = .ok zv w := fun w => by simp [zeroValue, typeInfo, i1, i2]
        intro call ρ env st k A h hA
        simp only [hLookup] at h
        obtain ⟨e, h⟩ := p_when h hA
        rw [beq_iff] at e
        have hck : ∀ (G : Gh) (a : Act) (b : Bool) (w : World), EnvOK G c ρ env a o.op.operands → (Instr.checkKey b 10000 kt (a.eval q)).run P w = .ok () w := fun G a b w hE =>
          run_check hkd hd e (hE q memq _ hq) b w
        have missing : ∀ (hA : A ≠ .bad), kOk ok z false st k = A → (∀ (G : Gh) (w : World) (a : Act), EnvOK G c ρ env a o.op.operands → Rel G st.h w → (a.eval m = .map none) ∨ ∃ r es clock, a.eval m = .map (some r) ∧ w.heap[r]? = some (.map es clock) ∧ Instr.findNow d (a.eval q) es.toList 0 = some none) →
            ∃ r, k r st = A ∧ Looks P o c ρ env st r := fun hA h hw => by
          unfold kOk at h
          rw [fV_eq] at h
          refine ⟨_, h, fun G w a hE hR => ⟨_, ?_, (i3 G).okv ok false⟩⟩
          rcases hw G w a hE hR with hn | ⟨r, es, clock, h1, h2, h3⟩
          · have hf : (Instr.findKey kt (a.eval q) []).run P w = .ok none w := MapKept.run_findKey hkd rfl
            have hc := hck G a true w hE
            simp [execOp, ho, Instr.lookup, run_under hu, hn, hc, hf, hzero]
          · have hf : (Instr.findKey kt (a.eval q) es.toList).run P w = .ok none w := MapKept.run_findKey hkd h3
            have hc := hck G a es.isEmpty w hE
            simp [execOp, ho, Instr.lookup, run_under hu, h1, MapKept.run_getObj_map h2, hc, hf, hzero]
        rcases p_map h hA with ⟨gm, h⟩ | ⟨gm, h⟩
        · obtain ⟨⟨g2, gz⟩, h⟩ := p_mapO h hA
          have hw : ∀ (G : Gh) (w : World) (a : Act), EnvOK G c ρ env a o.op.operands → Rel G st.h w → ∃ r es, a.eval m = .map (some r) ∧ w.heap[r]? = some (.map es (st.h (M'.v ρ env).f).a) ∧ L2 (EntOK G) (st.h (M'.v ρ env).f).es es.toList := fun G w a hE hR => by
            obtain ⟨cc, off, en, b1, b2⟩ := (hE m memm _ hm).i10 gm
            obtain ⟨c', es, k1, k2, k3⟩ := (hR.obj _).2.1 g2
            rw [b2] at k1
            cases k1
            exact ⟨cc, es, b1, k2, k3⟩
          rcases find_ok hd e hA h with ⟨h, hno⟩ | ⟨j, en, hj, h, hyes⟩
          · refine missing hA h fun G w a hE hR => .inr ?_
            obtain ⟨r, es, b1, b2, b3⟩ := hw G w a hE hR
            exact ⟨r, es, _, b1, b2, hno G es.toList _ b3 (hE q memq _ hq)⟩
          · unfold kOk at h
            rw [fV_eq] at h
            have hval : ∀ (G : Gh) (w : World) (a : Act), EnvOK G c ρ env a o.op.operands → Rel G st.h w → ∃ v, (execOp a.eval o).run P w = .ok (.value v) w ∧ VR G (okV ok en.val true) v := fun G w a hE hR => by
              obtain ⟨r, es, b1, b2, b3⟩ := hw G w a hE hR
              obtain ⟨me, k1, k2, k3, k4⟩ := hyes G es.toList _ b3 (hE q memq _ hq)
              have hf : (Instr.findKey kt (a.eval q) es.toList).run P w = .ok (some (0 + j, me.val)) w := MapKept.run_findKey hkd k4
              have hc := hck G a es.isEmpty w hE
              exact ⟨_, by simp [execOp, ho, Instr.lookup, run_under hu, b1, MapKept.run_getObj_map b2, hc, hf], k2.2.1.okv ok true⟩
            exact ⟨_, h, hval⟩
        · exact missing hA h fun G w a hE hR => .inl ((hE m memm _ hm).i9 gm)
      · exact bad_looks
    · exact bad_looks
  · exact bad_looks
end
end Go.Ev
namespace Go.Ev
open Go

theorem modE_get (key val : AV) : ∀ (i : Nat) (es : List Ent) (x : Nat), (modE key val i es)[x]? = if x = i then (es[x]?).map (fun e => ⟨key, val, e.born⟩) else es[x]?
  | i, [], x => by cases i <;> simp [modE]
  | 0, e :: es, 0 => by simp [modE]
  | 0, e :: es, x + 1 => by simp [modE]
  | i + 1, e :: es, 0 => by simp [modE]
  | i + 1, e :: es, x + 1 => by
    show (modE key val i es)[x]? = _
    rw [modE_get key val i es x]
    simp
theorem modE_len (key val : AV) : ∀ (i : Nat) (es : List Ent), (modE key val i es).length = es.length
  | i, [] => by cases i <;> rfl
  | 0, e :: es => rfl
  | i + 1, e :: es => by show (modE key val i es).length + 1 = _; rw [modE_len]; rfl
theorem delE_eq : ∀ (i : Nat) (es : List Ent), delE i es = es.eraseIdx i
  | i, [] => by cases i <;> rfl
  | 0, e :: es => rfl
  | i + 1, e :: es => by show e :: delE i es = _; rw [delE_eq]; rfl

theorem modE_ok {G : Gh} {es : List Ent} {mes : Array MapEntry} (h : L2 (EntOK G) es mes.toList) {key val : AV} {k v : Value} (hk : VR G key k) (hv : VR G val v) (i : Nat) :
    L2 (EntOK G) (modE key val i es) (mes.modify i fun e => { e with key := k, val := v }).toList := by
  have hl := h.length
  have hl' : es.length = mes.size := by simpa using hl
  refine L2.of_get (by rw [modE_len]; simpa using hl') fun x a b ha hb => ?_
  rw [modE_get] at ha
  rw [Array.getElem?_toList, Array.getElem?_modify] at hb
  by_cases hx : x = i
  · subst hx
    rw [if_pos rfl] at ha hb
    cases he : es[x]? with
    | none => rw [he] at ha; cases ha
    | some e =>
      rw [he] at ha
      cases ha
      obtain ⟨me, hm, hr⟩ := h.get he
      rw [Array.getElem?_toList] at hm
      rw [hm] at hb
      cases hb
      exact ⟨hk, hv, hr.2.2⟩
  · rw [if_neg hx] at ha
    rw [if_neg (Ne.symm hx)] at hb
    obtain ⟨me, hm, hr⟩ := h.get ha
    rw [Array.getElem?_toList, hb] at hm
    cases hm
    exact hr
theorem L2.eraseIdx {α β : Type} {R : α → β → Prop} {l : List α} {m : List β} (h : L2 R l m) : ∀ i, L2 R (l.eraseIdx i) (m.eraseIdx i) := by
  induction h with
  | nil => intro i; exact .nil
  | cons h t ih =>
    intro i
    cases i with
    | zero => exact t
    | succ i => exact .cons h (ih i)
theorem Hp.up_id (h : Hp) (f : Id) : Hp.up h f (h f) = h := by
  show Hp.mk _ _ = Hp.mk h.m h.nx
  rw [Hp.mk.injEq]
  refine ⟨funext fun g => ?_, rfl⟩
  by_cases e : g = f
  · subst e; rw [if_pos rfl]
  · rw [if_neg e]

section
variable {P : Program} {o : Oper} {c : Operand → Option Opd}

theorem update_d {t : TypeId} {m q y : Operand} {M' Q' Y' : Opd} (ho : o.op = .mapUpdate t m q y) (hm : c m = some M') (hq : c q = some Q') (hy : c y = some Y') : DoesM P o c (cUpdate P t M' Q' Y') := by
  unfold cUpdate
  split
  · rename_i kt et hu
    split
    · rename_i g hk
      obtain ⟨d, hkd, hd⟩ := keyT_ok hk
      have memm : m ∈ o.op.operands := by simp [ho, Op.operands]
      have memq : q ∈ o.op.operands := by simp [ho, Op.operands]
      have memy : y ∈ o.op.operands := by simp [ho, Op.operands]
      intro call ρ env st k A h hA
      simp only [hUpdate, fV_eq] at h
      obtain ⟨e, h⟩ := p_when h hA
      rw [beq_iff] at e
      have hck : ∀ (G : Gh) (a : Act) (b : Bool) (w : World), EnvOK G c ρ env a o.op.operands → (Instr.checkKey b 10000 kt (a.eval q)).run P w = .ok () w := fun G a b w hE =>
        run_check hkd hd e (hE q memq _ hq) b w
      rcases p_map h hA with ⟨gm, h⟩ | ⟨gm, h⟩
      · obtain ⟨⟨g2, gz⟩, h⟩ := p_mapO h hA
        have hw : ∀ (G : Gh) (w : World) (a : Act), EnvOK G c ρ env a o.op.operands → Rel G st.h w → ∃ r es, a.eval m = .map (some r) ∧ G.β (M'.v ρ env).f 0 = some (r, 0, 0) ∧ w.heap[r]? = some (.map es (st.h (M'.v ρ env).f).a) ∧ L2 (EntOK G) (st.h (M'.v ρ env).f).es es.toList := fun G w a hE hR => by
          obtain ⟨cc, off, en, b1, b2⟩ := (hE m memm _ hm).i10 gm
          obtain ⟨c', es, k1, k2, k3⟩ := (hR.obj _).2.1 g2
          rw [b2] at k1
          cases k1
          exact ⟨cc, es, b1, b2, k2, k3⟩
        rcases find_ok hd e hA h with ⟨h, hno⟩ | ⟨j, en, hj, h, hyes⟩
        · rw [fL_eq, fN_eq, putK_eq] at h
          refine ⟨_, _, h, does_skip fun G w a hE hR => ?_⟩
          obtain ⟨r, es, b1, b2, b3, b4⟩ := hw G w a hE hR
          have hqv := hE q memq _ hq
          have hyv := hE y memy _ hy
          have sim := hR.setObj (.inl g2) gz b2 ⟨2, Nat.succ (st.h (M'.v ρ env).f).a, 0, 0, false, [], (st.h (M'.v ρ env).f).es ++ [⟨Q'.v ρ env, Y'.v ρ env, (st.h (M'.v ρ env).f).a⟩]⟩ (.inl rfl) rfl (.map (es.push { key := a.eval q, val := a.eval y, born := (st.h (M'.v ρ env).f).a }) ((st.h (M'.v ρ env).f).a + 1))
            (fun w' hw' => ⟨fun h => by simp at h, fun _ => ⟨r, _, b2, hw', by
              rw [Array.toList_push]
              exact b4.append (.cons ⟨hqv, hyv, rfl⟩ .nil)⟩, fun h => by simp at h⟩)
          refine ⟨_, G, ?_, by rw [St.h_set']; exact sim⟩
          have hf : (Instr.findKey kt (a.eval q) es.toList).run P w = .ok none w := MapKept.run_findKey hkd (hno G es.toList _ b4 hqv)
          have hc := hck G a false w hE
          simp [execOp, ho, Instr.mapUpdate, run_under hu, b1, MapKept.run_getObj_map b3, hc, hf, MapKept.run_setObj_map _ b3]
        · rw [fL_eq, putK_eq] at h
          refine ⟨_, _, h, does_skip fun G w a hE hR => ?_⟩
          obtain ⟨r, es, b1, b2, b3, b4⟩ := hw G w a hE hR
          have hqv := hE q memq _ hq
          have hyv := hE y memy _ hy
          obtain ⟨me, k1, k2, k3, k4⟩ := hyes G es.toList _ b4 hqv
          have sim := hR.setObj (.inl g2) gz b2 ⟨2, (st.h (M'.v ρ env).f).a, 0, 0, false, [], modE (Q'.v ρ env) (Y'.v ρ env) (0 + j) (st.h (M'.v ρ env).f).es⟩ (.inl rfl) rfl (.map (es.modify (0 + j) fun e => { e with key := a.eval q, val := a.eval y }) (st.h (M'.v ρ env).f).a)
            (fun w' hw' => ⟨fun h => by simp at h, fun _ => ⟨r, _, b2, hw', modE_ok b4 hqv hyv _⟩, fun h => by simp at h⟩)
          refine ⟨_, G, ?_, by rw [St.h_set']; exact sim⟩
          have hf : (Instr.findKey kt (a.eval q) es.toList).run P w = .ok (some (0 + j, me.val)) w := MapKept.run_findKey hkd k4
          have hc := hck G a false w hE
          have hold : ((es[0 + j]?).map (·.key)).getD (a.eval q) = a.eval q := by
            have : es[0 + j]? = some me := by rw [Nat.zero_add]; simpa using k1
            rw [this]
            exact k3
          have hstay : (Instr.keyThatStays (a.eval q) (a.eval q)).run P w = .ok (a.eval q) w := by
            have : Instr.sameBits 10000 (a.eval q) (a.eval q) = true := by
              rcases hd with ⟨kk, rfl, rfl⟩ | ⟨rfl, rfl⟩
              · obtain ⟨hv, _⟩ := hqv.i3 e; rw [hv]; simp [Instr.sameBits]
              · obtain ⟨s, hv, _⟩ := hqv.i4 e; rw [hv]; simp [Instr.sameBits, (MapKept.bytes_beq s s).2 rfl]
            simp [Instr.keyThatStays, this]
          simp only [execOp, ho, Instr.mapUpdate, Sem.run_bind, run_under hu, b1, MapKept.run_getObj_map b3, hc, hf, Result.andThen_ok, hold, hstay, MapKept.run_setObj_map _ b3, Sem.run_pure]
      · exact absurd h.symm hA
    · exact bad_does
  · exact bad_does

theorem delete_d {cl : Call} {m q : Operand} {M' Q' : Opd} {t : TypeId} (ho : o.op = .call cl) (hb : cl.callee = .builtin .delete) (hargs : cl.args = #[m, q]) (hty : cl.argTypes[0]? = some t) (hm : c m = some M') (hq : c q = some Q') : DoesM P o c (cDelete P t M' Q') := by
  unfold cDelete
  split
  · rename_i kt et hu
    split
    · rename_i g hk
      obtain ⟨d, hkd, hd⟩ := keyT_ok hk
      have memm : m ∈ o.op.operands := by simp [ho, Op.operands, Call.operands, hb, hargs]
      have memq : q ∈ o.op.operands := by simp [ho, Op.operands, Call.operands, hb, hargs]
      have hrun : ∀ (a : Act) (w w' : World) (v : Value), (Builtin.delete_ cl.argTypes o.type #[a.eval m, a.eval q]).run P w = .ok v w' → (execOp a.eval o).run P w = .ok (.value v) w' := fun a w w' v hv => by
        refine run_builtin ho hb a w _ ?_
        simp [builtin, hargs, hv]
      intro call ρ env st k A h hA
      simp only [hDelete] at h
      obtain ⟨e, h⟩ := p_when h hA
      rw [beq_iff] at e
      have hck : ∀ (G : Gh) (a : Act) (b : Bool) (w : World), EnvOK G c ρ env a o.op.operands → (Instr.checkKey b 10000 kt (a.eval q)).run P w = .ok () w := fun G a b w hE =>
        run_check hkd hd e (hE q memq _ hq) b w
      rcases p_map h hA with ⟨gm, h⟩ | ⟨gm, h⟩
      · obtain ⟨⟨g2, gz⟩, h⟩ := p_mapO h hA
        have hw : ∀ (G : Gh) (w : World) (a : Act), EnvOK G c ρ env a o.op.operands → Rel G st.h w → ∃ r es, a.eval m = .map (some r) ∧ G.β (M'.v ρ env).f 0 = some (r, 0, 0) ∧ w.heap[r]? = some (.map es (st.h (M'.v ρ env).f).a) ∧ L2 (EntOK G) (st.h (M'.v ρ env).f).es es.toList := fun G w a hE hR => by
          obtain ⟨cc, off, en, b1, b2⟩ := (hE m memm _ hm).i10 gm
          obtain ⟨c', es, k1, k2, k3⟩ := (hR.obj _).2.1 g2
          rw [b2] at k1
          cases k1
          exact ⟨cc, es, b1, b2, k2, k3⟩
        rcases find_ok hd e hA h with ⟨h, hno⟩ | ⟨j, en, hj, h, hyes⟩
        · refine ⟨_, _, h, does_value fun G w a hE hR => ?_⟩
          obtain ⟨r, es, b1, b2, b3, b4⟩ := hw G w a hE hR
          have hqv := hE q memq _ hq
          have sim := hR.setObj (.inl g2) gz b2 (st.h (M'.v ρ env).f) (.inl g2) gz (.map es (st.h (M'.v ρ env).f).a)
            (fun w' hw' => ⟨fun h => (by rw [g2] at h; cases h), fun _ => ⟨r, _, b2, hw', b4⟩, fun h => (by rw [g2] at h; cases h)⟩)
          rw [Hp.up_id] at sim
          refine ⟨.tuple #[], _, G, hrun a w _ _ ?_, sim, VR.und⟩
          have hf : (Instr.findKey kt (a.eval q) es.toList).run P w = .ok none w := MapKept.run_findKey hkd (hno G es.toList _ b4 hqv)
          have hc := hck G a es.isEmpty w hE
          simp only [Builtin.delete_, hty]
          simp [run_under hu, b1, MapKept.run_getObj_map b3, hc, hf, MapKept.run_setObj_map _ b3]
        · rw [fL_eq, putK_eq] at h
          refine ⟨_, _, h, does_value fun G w a hE hR => ?_⟩
          obtain ⟨r, es, b1, b2, b3, b4⟩ := hw G w a hE hR
          have hqv := hE q memq _ hq
          obtain ⟨me, k1, k2, k3, k4⟩ := hyes G es.toList _ b4 hqv
          have hlt : j < es.size := by
            have := (List.getElem?_eq_some_iff.1 k1).1
            simpa using this
          have sim := hR.setObj (.inl g2) gz b2 ⟨2, (st.h (M'.v ρ env).f).a, 0, 0, false, [], delE (0 + j) (st.h (M'.v ρ env).f).es⟩ (.inl rfl) rfl (.map (es.eraseIdxIfInBounds (0 + j)) (st.h (M'.v ρ env).f).a)
            (fun w' hw' => ⟨fun h => by simp at h, fun _ => ⟨r, _, b2, hw', by
              rw [delE_eq]
              have : (es.eraseIdxIfInBounds (0 + j)).toList = es.toList.eraseIdx (0 + j) := by
                unfold Array.eraseIdxIfInBounds
                rw [dif_pos (by omega)]
                simp
              rw [this]
              exact b4.eraseIdx _⟩, fun h => by simp at h⟩)
          refine ⟨.tuple #[], _, G, hrun a w _ _ ?_, by rw [St.h_set']; exact sim, VR.und⟩
          have hf : (Instr.findKey kt (a.eval q) es.toList).run P w = .ok (some (0 + j, me.val)) w := MapKept.run_findKey hkd k4
          have hc := hck G a es.isEmpty w hE
          simp only [Builtin.delete_, hty]
          simp only [List.getElem?_toArray, List.getElem?_cons_zero, List.getElem?_cons_succ, Sem.run_bind, run_under hu, b1, MapKept.run_getObj_map b3, hc, hf, Result.andThen_ok, MapKept.run_setObj_map _ b3, Sem.run_pure]
      · exact absurd h.symm hA
    · exact bad_does
  · exact bad_does
end
end Go.Ev
namespace Go.Ev
open Go

theorem xnot_eq (neg b : Bool) : xnot neg b = (if neg then !b else b) := by cases neg <;> cases b <;> rfl

section
variable {P : Program} {o : Oper} {c : Operand → Option Opd}

/-- == or != by the model's own equality. -/
theorem run_eq {neg : Bool} {t u : TypeId} {x y : Operand} (ho : o.op = .binOp (if neg then .neq else .eql) t x y u) (a : Act) (w : World) (b : Bool)
    (hg : ∀ op, (eqGuard op t x y (a.eval x) (a.eval y)).run P w = .ok () w) (hb : ∀ v, v = (if neg then !b else b) → (binOp (if neg then .neq else .eql) t (a.eval x) (a.eval y)).run P w = .ok (.bool v) w) :
    (execOp a.eval o).run P w = .ok (.value (.bool (xnot neg b))) w := by
  rw [xnot_eq]
  exact run_bin _ t u x y ho a w _ (hg _) (hb _ rfl)

theorem boolEq_p {neg : Bool} {t u : TypeId} {x y : Operand} {X Y : Opd} (ho : o.op = .binOp (if neg then .neq else .eql) t x y u) (hx : c x = some X) (hy : c y = some Y) (hu : P.underlying t = some .bool) : PureM P o c (hBoolEq neg X Y) := fun call ρ env st k A h hA => by
  simp only [hBoolEq] at h
  obtain ⟨g1, h⟩ := p_bool h hA
  obtain ⟨g2, h⟩ := p_bool h hA
  rw [kBool_eq] at h
  refine ⟨_, h, fun G a hE => ?_⟩
  have v1 := (hE x (by simp [ho, Op.operands]) _ hx).i2 g1
  have v2 := (hE y (by simp [ho, Op.operands]) _ hy).i2 g2
  refine ⟨.bool (xnot neg (beqB (Nat.beq (X.v ρ env).a 1) (Nat.beq (Y.v ρ env).a 1))), fun w => ?_, VR.mkBool _ _ rfl rfl⟩
  refine run_eq ho a w _ (fun op => by rw [v1, v2]; unfold eqGuard; split <;> simp) (fun v hv => ?_)
  rw [v1, v2, hv, beqB_eq]
  have e := run_equal_bool (P := P) w t (Nat.beq (X.v ρ env).a 1) (Nat.beq (Y.v ρ env).a 1) hu
  cases neg <;> simp [binOp, e]

/-- One leaf against another. -/
theorem leaf_ok {x y : AV} {k : Bool → Ans} {A : Ans} (h : cellEqK x y k = A) (hA : A ≠ .bad) : ∃ b, k b = A ∧ ∀ (G : Gh) (u v : Value) (d : Nat) (t : TypeId) (w : World), VR G x u → VR G y v →
    ((P.underlying t = some .bool ∧ x.g = 2) ∨ (∃ kk, P.underlying t = some (.int kk) ∧ x.g = 3) ∨ (P.underlying t = some .string ∧ x.g = 4)) → (Op.equalIn (d + 1) t u v).run P w = .ok b w := by
  unfold cellEqK at h
  rcases p_asel h with ⟨g, h⟩ | ⟨g, h⟩
  · rw [beq_iff] at g
    obtain ⟨g1, h⟩ := p_int h hA
    obtain ⟨e, h⟩ := p_when h hA
    rw [beq_iff] at e
    refine ⟨_, h, fun G u v d t w hu hv ht => ?_⟩
    rcases ht with ⟨_, h2⟩ | ⟨kk, h1, _⟩ | ⟨_, h2⟩
    · omega
    · obtain ⟨rfl, _⟩ := hu.i3 g
      obtain ⟨rfl, _⟩ := hv.i3 g1
      rw [e, run_equalIn_int w d t _ kk _ _ h1]
      have : ieq x.i y.i = (x.i == y.i) := by rw [Bool.eq_iff_iff, ieq_iff]; simp
      rw [this]
    · omega
  · have g' : x.g ≠ 3 := fun e => by rw [(beq_iff _ _).2 e] at g; cases g
    rcases p_asel h with ⟨g4, h⟩ | ⟨g4, h⟩
    · rw [beq_iff] at g4
      obtain ⟨g1, h⟩ := p_str h hA
      refine ⟨_, h, fun G u v d t w hu hv ht => ?_⟩
      rcases ht with ⟨_, h2⟩ | ⟨kk, _, h2⟩ | ⟨h1, _⟩
      · omega
      · omega
      · obtain ⟨s, rfl, q1, q2⟩ := hu.i4 g4
        obtain ⟨s', rfl, q3, q4⟩ := hv.i4 g1
        rw [← q1, ← q2, ← q3, ← q4, seq_ok]
        exact run_equalIn_string w d t s s' h1
    · obtain ⟨g1, h⟩ := p_bool h hA
      obtain ⟨g2, h⟩ := p_bool h hA
      refine ⟨_, h, fun G u v d t w hu hv ht => ?_⟩
      rcases ht with ⟨h1, _⟩ | ⟨kk, _, h2⟩ | ⟨_, h2⟩
      · rw [hu.i2 g1, hv.i2 g2, beqB_eq]
        exact run_equalIn_bool w d t _ _ h1
      · omega
      · omega

theorem cmp_append (o1 o2 : List (Nat × Nat)) (x y : List AV) (k : Bool → Ans) : cmpK (o1 ++ o2) x y k = cmpK o1 x y fun r => asel r (cmpK o2 x y k) (k false) := by
  induction o1 with
  | nil => rfl
  | cons p o1 ih =>
    show (dropK p.1 x fun xs => listK xs fun u => dropK p.1 y fun ys => listK ys fun v => whenK (Nat.beq u.g p.2) (cellEqK u v fun r => asel r (cmpK (o1 ++ o2) x y k) (k false))) = _
    rw [ih]; rfl

/-- A value of a type at a place of a row. -/
def AtV (P : Program) (t : TypeId) (v : Value) (b : Nat) (X : Array Value) : Prop :=
  (agg? P t = some false ∧ X[b]? = some v) ∨ (agg? P t = some true ∧ ∃ cs, v = .agg cs ∧ ∀ sz, sizeOf? P t = some sz → ∀ i, i < sz → cs[i]? = X[b + i]?)

theorem cell_at {l : List AV} {b : Nat} {k : AV → Ans} {A : Ans} (h : dropK b l (fun xs => listK xs k) = A) (hA : A ≠ .bad) : ∃ u, l[b]? = some u ∧ k u = A := by
  obtain ⟨e, h⟩ := p_drop h hA
  obtain ⟨r, rs, e2, h⟩ := p_list h hA
  refine ⟨r, ?_, h⟩
  have : (l.drop b)[0]? = some r := by rw [e2]; rfl
  rwa [List.getElem?_drop, Nat.add_zero] at this

/-- A leaf against a leaf. -/
theorem leaf_cmp {t : TypeId} {b g : Nat} (ht : (P.underlying t = some .bool ∧ g = 2) ∨ (∃ kk, P.underlying t = some (.int kk) ∧ g = 3) ∨ (P.underlying t = some .string ∧ g = 4)) {lx ly : List AV} {k : Bool → Ans} {A : Ans}
    (h : cmpK [(b, g)] lx ly k = A) (hA : A ≠ .bad) : ∃ r, k r = A ∧ ∀ (G : Gh) (X Y : Array Value) (x y : Value) (d : Nat) (w : World), VRs G lx X.toList → VRs G ly Y.toList → AtV P t x b X → AtV P t y b Y → (Op.equalIn (d + 1) t x y).run P w = .ok r w := by
  have h' : (dropK b lx fun xs => listK xs fun u => dropK b ly fun ys => listK ys fun v => whenK (Nat.beq u.g g) (cellEqK u v fun r => asel r (k true) (k false))) = A := h
  obtain ⟨u, hu, h'⟩ := cell_at h' hA
  obtain ⟨v, hv, h'⟩ := cell_at h' hA
  obtain ⟨e, h'⟩ := p_when h' hA
  rw [beq_iff] at e
  obtain ⟨r, h', hr⟩ := leaf_ok (P := P) h' hA
  have hk : k r = A := by cases r <;> exact h'
  refine ⟨r, hk, fun G X Y x y d w hX hY ax ay => ?_⟩
  have hagg : agg? P t = some false := by
    unfold agg?
    rcases ht with ⟨h, _⟩ | ⟨kk, h, _⟩ | ⟨h, _⟩ <;> rw [h]
  obtain ⟨x', hx', rx⟩ := hX.get hu
  obtain ⟨y', hy', ry⟩ := hY.get hv
  have ex : x' = x := by
    rcases ax with ⟨_, h⟩ | ⟨h, _⟩
    · rw [Array.getElem?_toList, h] at hx'; cases hx'; rfl
    · rw [hagg] at h; cases h
  have ey : y' = y := by
    rcases ay with ⟨_, h⟩ | ⟨h, _⟩
    · rw [Array.getElem?_toList, h] at hy'; cases hy'; rfl
    · rw [hagg] at h; cases h
  subst ex ey
  exact hr G _ _ d t w rx ry (by rw [e]; exact ht)

/-- A part of a struct at a place stands at its place. -/
theorem part_at {t : TypeId} {cs X : Array Value} {b sz off n : Nat} (hcs : ∀ i, i < sz → cs[i]? = X[b + i]?) (hs : sizeOf? P t = some n) (h1 : off + n ≤ sz) (h2 : off < sz) {l : List AV} {G : Gh} (hX : VRs G l X.toList) (w : World)
    (hagg : agg? P t = some true ∨ (agg? P t = some false ∧ ∃ u, l[b + off]? = some u)) : ∃ v, (part t cs off).run P w = .ok v w ∧ AtV P t v (b + off) X := by
  rcases hagg with ha | ⟨ha, u, hu⟩
  · refine ⟨.agg (cs.extract off (off + n)), by simp [part, run_isAgg ha, run_size hs], .inr ⟨ha, _, rfl, fun sz' hsz' i hi => ?_⟩⟩
    rw [hs] at hsz'
    cases hsz'
    rw [Array.getElem?_extract]
    have := hcs (off + i) (by omega)
    split
    · rw [this, Nat.add_assoc]
    · rename_i hlt
      rw [show b + off + i = b + (off + i) from by omega, ← this]
      symm
      rw [Array.getElem?_eq_none_iff]
      omega
  · obtain ⟨v, hv, _⟩ := hX.get hu
    have : cs[off]? = some v := by
      rw [hcs off h2]
      simpa using hv
    exact ⟨v, by simp [part, run_isAgg ha, this], .inl ⟨ha, by simpa using hv⟩⟩
end
end Go.Ev
namespace Go.Ev
open Go

section
variable {P : Program} {o : Oper} {c : Operand → Option Opd}

theorem flat_agg {n : Nat} {t : TypeId} {b : Nat} {a : List (Nat × Nat)} (h : flatOffs P n t b = some a) : agg? P t = some true ∨ (agg? P t = some false ∧ ∃ g, a = [(b, g)]) := by
  cases n with
  | zero => cases h
  | succ n =>
    simp only [flatOffs] at h
    unfold agg?
    split at h
    · rename_i hu; cases h; right; rw [hu]; exact ⟨rfl, _, rfl⟩
    · rename_i hu; cases h; right; rw [hu]; exact ⟨rfl, _, rfl⟩
    · rename_i hu; cases h; right; rw [hu]; exact ⟨rfl, _, rfl⟩
    · rename_i hu; left; rw [hu]
    · cases h

def FlatAt (P : Program) (n : Nat) : Prop := ∀ (t : TypeId) (b : Nat) (offs : List (Nat × Nat)), flatOffs P n t b = some offs → ∀ (lx ly : List AV) (k : Bool → Ans) (A : Ans), cmpK offs lx ly k = A → A ≠ .bad →
  ∃ r, k r = A ∧ ∀ (G : Gh) (X Y : Array Value) (x y : Value) (d : Nat) (w : World), VRs G lx X.toList → VRs G ly Y.toList → AtV P t x b X → AtV P t y b Y → (Op.equalIn (d + n) t x y).run P w = .ok r w

theorem flatF_ok {n b sz : Nat} (IH : FlatAt P n) : ∀ (fs : List Field) (offs : List (Nat × Nat)), flatF (flatOffs P n) P b sz fs = some offs → ∀ (lx ly : List AV) (k : Bool → Ans) (A : Ans), cmpK offs lx ly k = A → A ≠ .bad →
    ∃ r, k r = A ∧ ∀ (G : Gh) (X Y cs ds : Array Value) (d : Nat) (w : World), VRs G lx X.toList → VRs G ly Y.toList → (∀ i, i < sz → cs[i]? = X[b + i]?) → (∀ i, i < sz → ds[i]? = Y[b + i]?) → (Op.eqFields (d + n) cs ds fs).run P w = .ok r w
  | [], offs, h, lx, ly, k, A, hk, hA => by
    cases h
    exact ⟨true, hk, fun G X Y cs ds d w _ _ _ _ => by simp [Op.eqFields]⟩
  | fd :: fs, offs, h, lx, ly, k, A, hk, hA => by
    simp only [flatF] at h
    split at h
    · rename_i hn
      split at h
      · rename_i m hm
        split at h
        · rename_i hb
          split at h
          · rename_i a ha
            split at h
            · rename_i r hr
              cases h
              rw [cmp_append] at hk
              have hcells : agg? P fd.type = some true ∨ (agg? P fd.type = some false ∧ (∃ u, lx[b + fd.offset]? = some u) ∧ ∃ u, ly[b + fd.offset]? = some u) := by
                rcases flat_agg ha with h | ⟨h, g, rfl⟩
                · exact .inl h
                · have h' : (dropK (b + fd.offset) lx fun xs => listK xs fun u => dropK (b + fd.offset) ly fun ys => listK ys fun v => whenK (Nat.beq u.g g) (cellEqK u v fun q => asel q (asel true (cmpK r lx ly k) (k false)) (asel false (cmpK r lx ly k) (k false)))) = A := hk
                  obtain ⟨u, hu, h'⟩ := cell_at h' hA
                  obtain ⟨v, hv, h'⟩ := cell_at h' hA
                  exact .inr ⟨h, ⟨u, hu⟩, ⟨v, hv⟩⟩
              obtain ⟨q, hq, hsem⟩ := IH fd.type (b + fd.offset) a ha lx ly _ A hk hA
              have step : ∀ (G : Gh) (X Y cs ds : Array Value) (d : Nat) (w : World), VRs G lx X.toList → VRs G ly Y.toList → (∀ i, i < sz → cs[i]? = X[b + i]?) → (∀ i, i < sz → ds[i]? = Y[b + i]?) →
                  ∃ u v, (part fd.type cs fd.offset).run P w = .ok u w ∧ (part fd.type ds fd.offset).run P w = .ok v w ∧ (Op.equalIn (d + n) fd.type u v).run P w = .ok q w := fun G X Y cs ds d w hX hY hc hd => by
                obtain ⟨u, u1, u2⟩ := part_at hc hm hb.1 hb.2 hX w (by
                  rcases hcells with h | ⟨h, h1, _⟩
                  · exact .inl h
                  · exact .inr ⟨h, h1⟩)
                obtain ⟨v, v1, v2⟩ := part_at hd hm hb.1 hb.2 hY w (by
                  rcases hcells with h | ⟨h, _, h1⟩
                  · exact .inl h
                  · exact .inr ⟨h, h1⟩)
                exact ⟨u, v, u1, v1, hsem G X Y u v d w hX hY u2 v2⟩
              cases q with
              | true =>
                obtain ⟨r', hr', hsem'⟩ := flatF_ok IH fs r hr lx ly k A hq hA
                refine ⟨r', hr', fun G X Y cs ds d w hX hY hc hd => ?_⟩
                obtain ⟨u, v, s1, s2, s3⟩ := step G X Y cs ds d w hX hY hc hd
                simp [Op.eqFields, hn, s1, s2, s3, hsem' G X Y cs ds d w hX hY hc hd]
              | false =>
                refine ⟨false, hq, fun G X Y cs ds d w hX hY hc hd => ?_⟩
                obtain ⟨u, v, s1, s2, s3⟩ := step G X Y cs ds d w hX hY hc hd
                simp [Op.eqFields, hn, s1, s2, s3]
            · cases h
          · cases h
        · cases h
      · cases h
    · cases h

theorem flat_ok : ∀ n, FlatAt P n
  | 0, _, _, _, h => by cases h
  | n + 1, t, b, offs, h => by
    intro lx ly k A hk hA
    simp only [flatOffs] at h
    split at h
    · rename_i hu; cases h
      obtain ⟨r, h1, h2⟩ := leaf_cmp (.inl ⟨hu, rfl⟩) hk hA
      exact ⟨r, h1, fun G X Y x y d w hX hY ax ay => h2 G X Y x y (d + n) w hX hY ax ay⟩
    · rename_i kk hu; cases h
      obtain ⟨r, h1, h2⟩ := leaf_cmp (.inr (.inl ⟨kk, hu, rfl⟩)) hk hA
      exact ⟨r, h1, fun G X Y x y d w hX hY ax ay => h2 G X Y x y (d + n) w hX hY ax ay⟩
    · rename_i hu; cases h
      obtain ⟨r, h1, h2⟩ := leaf_cmp (.inr (.inr ⟨hu, rfl⟩)) hk hA
      exact ⟨r, h1, fun G X Y x y d w hX hY ax ay => h2 G X Y x y (d + n) w hX hY ax ay⟩
    · rename_i fs hu
      split at h
      · cases h
      · rename_i hst
        split at h
        · rename_i sz hsz
          obtain ⟨r, h1, h2⟩ := flatF_ok (flat_ok n) fs.toList offs h lx ly k A hk hA
          refine ⟨r, h1, fun G X Y x y d w hX hY ax ay => ?_⟩
          have hagg : agg? P t = some true := by unfold agg?; rw [hu]
          have hf : P.fieldsOf t = fs := by simp [Program.fieldsOf, hu]
          rcases ax with ⟨e, _⟩ | ⟨_, cs, rfl, hc⟩
          · rw [hagg] at e; cases e
          · rcases ay with ⟨e, _⟩ | ⟨_, ds, rfl, hd⟩
            · rw [hagg] at e; cases e
            · rw [show d + (n + 1) = (d + n) + 1 from rfl, run_equalIn_struct w (d + n) t cs ds (by rw [hf]; exact hu) (by simpa using hst), hf]
              exact h2 G X Y cs ds d w hX hY (hc sz hsz) (hd sz hsz)
        · cases h
    · cases h

theorem aggEq_p {neg : Bool} {t u : TypeId} {x y : Operand} {X Y : Opd} {fs : Array Field} {offs : List (Nat × Nat)} (ho : o.op = .binOp (if neg then .neq else .eql) t x y u) (hx : c x = some X) (hy : c y = some Y) (hu : P.underlying t = some (.struct fs)) (hg : P.eqGuardType P.depth t = false) (hf : flatOffs P 8 t 0 = some offs) : PureM P o c (hAggEq offs neg X Y) := fun call ρ env st k A h hA => by
  simp only [hAggEq] at h
  obtain ⟨g1, h⟩ := p_agg h hA
  obtain ⟨g2, h⟩ := p_agg h hA
  obtain ⟨r, h, hr⟩ := flat_ok 8 t 0 offs hf _ _ _ _ h hA
  rw [kBool_eq] at h
  refine ⟨_, h, fun G a hE => ?_⟩
  obtain ⟨cs, v1, q1⟩ := (hE x (by simp [ho, Op.operands]) _ hx).i1 g1
  obtain ⟨ds, v2, q2⟩ := (hE y (by simp [ho, Op.operands]) _ hy).i1 g2
  have hagg : agg? P t = some true := by unfold agg?; rw [hu]
  refine ⟨.bool (xnot neg r), fun w => ?_, VR.mkBool _ _ rfl rfl⟩
  refine run_eq ho a w _ (fun op => by rw [v1, v2]; exact run_eqGuard_agg w op t x y cs ds hg) (fun v hv => ?_)
  have e := hr G cs ds (.agg cs) (.agg ds) 9992 w q1 q2 (.inr ⟨hagg, cs, rfl, fun sz _ i _ => by rw [Nat.zero_add]⟩) (.inr ⟨hagg, ds, rfl, fun sz _ i _ => by rw [Nat.zero_add]⟩)
  rw [v1, v2, hv]
  cases neg
  · rw [if_neg (by simp), run_eql_struct]
    show ((Op.equalIn (9992 + 8) t (.agg cs) (.agg ds)).run P w).andThen _ = _
    rw [e]; rfl
  · rw [if_pos rfl, run_neq_struct]
    show ((Op.equalIn (9992 + 8) t (.agg cs) (.agg ds)).run P w).andThen _ = _
    rw [e]; rfl
end
end Go.Ev
namespace Go.Ev
open Go

def NilT (d : TypeDesc) (g0 : Nat) (nv : Value) : Prop :=
  (∃ e, d = .pointer e ∧ g0 = 5 ∧ nv = .pointer none) ∨ (∃ e, d = .slice e ∧ g0 = 7 ∧ nv = .slice none 0 0) ∨ (∃ k e, d = .map k e ∧ g0 = 9 ∧ nv = .map none) ∨ (∃ a b e, d = .func a b e ∧ g0 = 12 ∧ nv = .nilFunc) ∨ (∃ ms, d = .interface ms ∧ g0 = 14 ∧ nv = .nilIface)

theorem VR.i12 {G : Gh} {x : AV} {v : Value} (h : VR G x v) (hg : x.g = 12) : v = .nilFunc := by cases h <;> first | (rename_i k _; rw [hg] at k; cases k; done) | (rename_i k; rw [hg] at k; cases k; done) | (rename_i k _ _; rw [hg] at k; cases k; done) | rfl
theorem VR.i14 {G : Gh} {x : AV} {v : Value} (h : VR G x v) (hg : x.g = 14) : v = .nilIface := by cases h <;> first | (rename_i k _; rw [hg] at k; cases k; done) | (rename_i k; rw [hg] at k; cases k; done) | (rename_i k _ _; rw [hg] at k; cases k; done) | rfl
theorem VR.i15 {G : Gh} {x : AV} {v : Value} (h : VR G x v) (hg : x.g = 15) : ∃ u, v = .iface x.a u := by cases h <;> first | (rename_i k _; rw [hg] at k; cases k; done) | (rename_i k; rw [hg] at k; cases k; done) | (rename_i k _ _; rw [hg] at k; cases k; done) | exact ⟨_, rfl⟩

/-- The nil, by its kind. -/
theorem nil_is {d : TypeDesc} {g0 : Nat} {nv : Value} (hd : NilT d g0 nv) {G : Gh} {x : AV} {v : Value} (h : VR G x v) (hg : x.g = g0) : v = nv := by
  rcases hd with ⟨e, rfl, rfl, rfl⟩ | ⟨e, rfl, rfl, rfl⟩ | ⟨k, e, rfl, rfl, rfl⟩ | ⟨a, b, e, rfl, rfl, rfl⟩ | ⟨ms, rfl, rfl, rfl⟩
  · exact h.i5 hg
  · exact h.i7 hg
  · exact h.i9 hg
  · exact h.i12 hg
  · exact h.i14 hg

section
variable {P : Program} {o : Oper} {c : Operand → Option Opd}

theorem eqIn_nil_nil (dd : Nat) {d : TypeDesc} {g0 : Nat} {nv : Value} (hd : NilT d g0 nv) {t : TypeId} (hu : P.underlying t = some d) (w : World) : (Op.equalIn (dd + 1) t nv nv).run P w = .ok true w := by
  rcases hd with ⟨e, rfl, rfl, rfl⟩ | ⟨e, rfl, rfl, rfl⟩ | ⟨k, e, rfl, rfl, rfl⟩ | ⟨a, b, e, rfl, rfl, rfl⟩ | ⟨ms, rfl, rfl, rfl⟩ <;> simp [Op.equalIn, run_underlying hu]
theorem eqIn_nil_ref (dd : Nat) {d : TypeDesc} {g0 : Nat} {nv : Value} (hd : NilT d g0 nv) {t : TypeId} (hu : P.underlying t = some d) {G : Gh} {x : AV} {v : Value} (h : VR G x v) (hg : x.g = g0 + 1) (w : World) : (Op.equalIn (dd + 1) t v nv).run P w = .ok false w ∧ (Op.equalIn (dd + 1) t nv v).run P w = .ok false w := by
  rcases hd with ⟨e, rfl, rfl, rfl⟩ | ⟨e, rfl, rfl, rfl⟩ | ⟨k, e, rfl, rfl, rfl⟩ | ⟨a, b, e, rfl, rfl, rfl⟩ | ⟨ms, rfl, rfl, rfl⟩
  · obtain ⟨cc, off, en, _, _, _, rfl⟩ := h.i6 hg
    simp [Op.equalIn, run_underlying hu]
  · obtain ⟨cc, off, en, p, q, _, rfl, _⟩ := h.i8 hg
    simp [Op.equalIn, run_underlying hu]
  · obtain ⟨cc, off, en, rfl, _⟩ := h.i10 hg
    simp [Op.equalIn, run_underlying hu]
  · obtain ⟨us, vs, rfl, _⟩ := h.i13 hg
    simp [Op.equalIn, run_underlying hu]
  · obtain ⟨u, rfl⟩ := h.i15 hg
    simp [Op.equalIn, run_underlying hu]
theorem eq_nil_nil {d : TypeDesc} {g0 : Nat} {nv : Value} (hd : NilT d g0 nv) {t : TypeId} (hu : P.underlying t = some d) (w : World) : (Op.equal t nv nv).run P w = .ok true w := eqIn_nil_nil 9999 hd hu w
theorem eq_nil_ref {d : TypeDesc} {g0 : Nat} {nv : Value} (hd : NilT d g0 nv) {t : TypeId} (hu : P.underlying t = some d) {G : Gh} {x : AV} {v : Value} (h : VR G x v) (hg : x.g = g0 + 1) (w : World) : (Op.equal t v nv).run P w = .ok false w ∧ (Op.equal t nv v).run P w = .ok false w := eqIn_nil_ref 9999 hd hu h hg w

theorem guard_nil {d : TypeDesc} {g0 : Nat} {nv : Value} (hd : NilT d g0 nv) {op : BinOp} {t : TypeId} {x y : Operand} {u v : Value} (hc : (u = nv ∧ x = .const nv) ∨ (v = nv ∧ y = .const nv)) (w : World) : (eqGuard op t x y u v).run P w = .ok () w := by
  unfold eqGuard
  split <;> first
    | (simp; done)
    | (rcases hc with ⟨rfl, rfl⟩ | ⟨rfl, rfl⟩ <;> rcases hd with ⟨e, rfl, rfl, rfl⟩ | ⟨e, rfl, rfl, rfl⟩ | ⟨k, e, rfl, rfl, rfl⟩ | ⟨a, b, e, rfl, rfl, rfl⟩ | ⟨ms, rfl, rfl, rfl⟩ <;> first | (simp; done) | (cases u <;> simp; done) | (cases v <;> simp; done))

theorem bin_eq {neg : Bool} {d : TypeDesc} {g0 : Nat} {nv : Value} (hd : NilT d g0 nv) {t : TypeId} {u v : Value} {b : Bool} {w : World} (hn : u = nv ∨ v = nv) (h : (Op.equal t u v).run P w = .ok b w) : (binOp (if neg then .neq else .eql) t u v).run P w = .ok (.bool (if neg then !b else b)) w := by
  rcases hn with rfl | rfl
  · rcases hd with ⟨e, rfl, rfl, rfl⟩ | ⟨e, rfl, rfl, rfl⟩ | ⟨k, e, rfl, rfl, rfl⟩ | ⟨a, b, e, rfl, rfl, rfl⟩ | ⟨ms, rfl, rfl, rfl⟩ <;> cases neg <;> first | (simp [binOp, h]; done) | (cases v <;> simp [binOp, h]; done)
  · rcases hd with ⟨e, rfl, rfl, rfl⟩ | ⟨e, rfl, rfl, rfl⟩ | ⟨k, e, rfl, rfl, rfl⟩ | ⟨a, b, e, rfl, rfl, rfl⟩ | ⟨ms, rfl, rfl, rfl⟩ <;> cases neg <;> first | (simp [binOp, h]; done) | (cases u <;> simp [binOp, h]; done)

theorem nilEq_p {neg : Bool} {t u : TypeId} {x y z : Operand} {Z : Opd} {d : TypeDesc} {g0 : Nat} {nv : Value} (hd : NilT d g0 nv) (ho : o.op = .binOp (if neg then .neq else .eql) t x y u) (hz : c z = some Z) (hu : P.underlying t = some d)
    (hc : (x = z ∧ y = .const nv) ∨ (y = z ∧ x = .const nv)) : PureM P o c (hNilEq g0 neg Z) := fun call ρ env st k A h hA => by
  simp only [hNilEq] at h
  rw [on_eq] at h
  have memz : z ∈ o.op.operands := by rcases hc with ⟨rfl, _⟩ | ⟨rfl, _⟩ <;> simp [ho, Op.operands]
  have key : ∀ (G : Gh) (a : Act) (w : World) (b : Bool), EnvOK G c ρ env a o.op.operands → (Op.equal t (a.eval z) nv).run P w = .ok b w ∧ (Op.equal t nv (a.eval z)).run P w = .ok b w → (execOp a.eval o).run P w = .ok (.value (.bool (xnot neg b))) w := fun G a w b hE hb => by
    rcases hc with ⟨rfl, rfl⟩ | ⟨rfl, rfl⟩
    · refine run_eq ho a w b (fun op => guard_nil hd (.inr ⟨rfl, rfl⟩) w) fun v hv => ?_
      rw [hv]
      exact bin_eq hd (.inr rfl) hb.1
    · refine run_eq ho a w b (fun op => guard_nil hd (.inl ⟨rfl, rfl⟩) w) fun v hv => ?_
      rw [hv]
      exact bin_eq hd (.inl rfl) hb.2
  rcases p_asel h with ⟨g, h⟩ | ⟨_, h⟩
  · rw [beq_iff] at g
    rw [kBool_eq] at h
    refine ⟨_, h, fun G a hE => ⟨.bool (xnot neg true), fun w => key G a w true hE ?_, VR.mkBool _ _ rfl rfl⟩⟩
    rw [nil_is hd (hE z memz _ hz) g]
    exact ⟨eq_nil_nil hd hu w, eq_nil_nil hd hu w⟩
  · obtain ⟨g, h⟩ := p_when h hA
    rw [beq_iff] at g
    rw [kBool_eq] at h
    refine ⟨_, h, fun G a hE => ⟨.bool (xnot neg false), fun w => key G a w false hE (eq_nil_ref hd hu (hE z memz _ hz) g w), VR.mkBool _ _ rfl rfl⟩⟩

theorem idEq_iff : ∀ (p q : Id), idEq p q = true → p = q
  | [], [], _ => rfl
  | a :: p, b :: q, h => by
    simp only [idEq, nand_eq, Bool.and_eq_true, beqB_eq] at h
    rw [idEq_iff p q h.2]
    have := h.1
    cases a <;> cases b <;> simp_all
  | [], _ :: _, h => by simp [idEq] at h
  | _ :: _, [], h => by simp [idEq] at h

theorem ptrEq_p {neg : Bool} {t u el : TypeId} {n : Nat} {x y : Operand} {X Y : Opd} (ho : o.op = .binOp (if neg then .neq else .eql) t x y u) (hx : c x = some X) (hy : c y = some Y) (hu : P.underlying t = some (.pointer el)) (hs : sizeOf? P el = some n) (h0 : 0 < n) : PureM P o c (hPtrEq neg X Y) := fun call ρ env st k A h hA => by
  simp only [hPtrEq] at h
  obtain ⟨g1, h⟩ := p_ptr h hA
  obtain ⟨g2, h⟩ := p_ptr h hA
  obtain ⟨e, h⟩ := p_when h hA
  rw [nand_eq, nand_eq, Bool.and_eq_true, Bool.and_eq_true, beq_iff, beq_iff] at e
  obtain ⟨e1, e2, e3⟩ := e
  have e1 := idEq_iff _ _ e1
  rw [kBool_eq] at h
  refine ⟨_, h, fun G a hE => ?_⟩
  obtain ⟨cc, off, en, b1, b2, b3, b4⟩ := (hE x (by simp [ho, Op.operands]) _ hx).i6 g1
  obtain ⟨cc', off', en', b1', b2', b3', b4'⟩ := (hE y (by simp [ho, Op.operands]) _ hy).i6 g2
  rw [← e1, ← e2, b1] at b1'
  obtain ⟨rfl, rfl, rfl⟩ : cc = cc' ∧ off = off' ∧ en = en' := by simpa using b1'
  rw [← e3, ← b4] at b4'
  have hx' : xnot neg true = nnot neg := by cases neg <;> rfl
  refine ⟨.bool (xnot neg true), fun w => ?_, VR.mkBool _ _ rfl (by rw [hx'])⟩
  have hn0 : n ≠ 0 := by omega
  have heqd : ∀ dd, (Op.equalIn (dd + 1) t (a.eval x) (a.eval x)).run P w = .ok true w := fun dd => by
    rw [b4]
    simp [Op.equalIn, run_underlying hu, run_size hs, sameAddr]
  have heq : (Op.equal t (a.eval x) (a.eval x)).run P w = .ok true w := heqd 9999
  refine run_eq ho a w true (fun op => ?_) fun v hv => ?_
  · rw [b4', b4]; unfold eqGuard; split <;> simp
  · rw [b4', hv]
    rw [b4] at heq ⊢
    cases neg <;> simp [binOp, heq]

theorem imax_eq (a b : Int) : imax a b = if b > a then b else a := by
  unfold imax
  cases h : ile b a with
  | true => rw [ile_eq] at h; simp at h; rw [if_neg (by omega)]; rfl
  | false => rw [ile_eq] at h; simp at h; rw [if_pos (by omega)]; rfl
theorem imin_eq (a b : Int) : imin a b = if b < a then b else a := by
  unfold imin
  cases h : ile a b with
  | true => rw [ile_eq] at h; simp at h; rw [if_neg (by omega)]; rfl
  | false => rw [ile_eq] at h; simp at h; rw [if_pos (by omega)]; rfl

theorem mm_ok (g : Int → Int → Int) (f : Value → Value → Sem Value) (hf : ∀ (k j : IntKind) (a b : Int), f (.int k a) (.int j b) = pure (.int k (g a b))) : ∀ (vs : List AV) (j : Nat) (a : Int) (r : Int → Ans) (A : Ans), mmK g j vs a r = A → A ≠ .bad →
    ∃ n, r n = A ∧ ∀ (G : Gh) (us : List Value) (w : World), VRs G vs us → (us.foldlM f (.int (kof j) a)).run P w = .ok (.int (kof j) n) w
  | [], j, a, r, A, h, hA => ⟨a, h, fun G us w hu => by cases hu; simp⟩
  | v :: vs, j, a, r, A, h, hA => by
    have h' : (v.intK fun j' b => whenK (Nat.beq j j') (mmK g j vs (g a b) r)) = A := h
    obtain ⟨g1, h'⟩ := p_int h' hA
    obtain ⟨e, h'⟩ := p_when h' hA
    obtain ⟨n, h1, h2⟩ := mm_ok g f hf vs j _ r A h' hA
    refine ⟨n, h1, fun G us w hu => ?_⟩
    cases hu with
    | cons hx ht =>
      obtain ⟨rfl, _⟩ := hx.i3 g1
      rw [List.foldlM_cons, hf]
      simp only [Sem.run_bind, Sem.run_pure, Result.andThen_ok]
      exact h2 G _ w ht

theorem mm_p {b : Builtin} {cl : Call} {xs : List Opd} (ho : o.op = .call cl) (hb : cl.callee = .builtin b) (hbb : b = .max ∨ b = .min) (hargs : cOpndsW c cl.args.toList = some xs) : PureM P o c (cMM (if b matches .max then imax else imin) xs) := by
  unfold cMM
  split
  · rename_i X Xs
    intro call ρ env st k A h hA
    simp only [hMM, getsK_eq] at h
    obtain ⟨g1, h⟩ := p_int h hA
    have hmem : ∀ x ∈ cl.args.toList, x ∈ o.op.operands := fun x hx => by
      rw [ho]
      simp only [Op.operands, Call.operands, hb]
      simpa using hx
    have hlist : ∃ x rest, cl.args.toList = x :: rest ∧ c x = some X ∧ cOpndsW c rest = some Xs := by
      cases hl : cl.args.toList with
      | nil => rw [hl] at hargs; cases hargs
      | cons x rest =>
        rw [hl] at hargs
        simp only [cOpndsW] at hargs
        split at hargs
        · cases hargs
        · rename_i X' hX'
          split at hargs
          · cases hargs
          · rename_i Ys hYs
            cases hargs
            exact ⟨x, rest, rfl, hX', hYs⟩
    obtain ⟨x, rest, hl, hx, hrest⟩ := hlist
    have hfin : ∀ (g : Int → Int → Int) (f : Value → Value → Sem Value), (∀ (k j : IntKind) (a b : Int), f (.int k a) (.int j b) = pure (.int k (g a b))) → mmK g (X.v ρ env).a (gets ρ env Xs) (X.v ρ env).i (fun r => kInt (X.v ρ env).a r st k) = A →
        (∀ (a : Act) (w : World) (v : Value), ((rest.map a.eval).foldlM f (a.eval x)).run P w = .ok v w → (execOp a.eval o).run P w = .ok (.value v) w) → ∃ r, k r st = A ∧ Pure P o c ρ env r := fun g f hf h hrun => by
      obtain ⟨n, h, hn⟩ := mm_ok (P := P) g f hf _ _ _ _ A h hA
      rw [kInt_eq] at h
      refine ⟨_, h, fun G a hE => ?_⟩
      obtain ⟨v1, k1⟩ := (hE x (hmem x (by rw [hl]; simp)) _ hx).i3 g1
      have hr := opnds_ok (G := G) (ρ := ρ) (env := env) (a := a) hrest (fun y hy Y hY => hE y (hmem y (by rw [hl]; simp [hy])) Y hY)
      refine ⟨.int (kof (X.v ρ env).a) n, fun w => hrun a w _ ?_, VR.mkInt _ _ _ rfl k1.symm rfl⟩
      rw [v1]
      exact hn G _ w hr
    rcases hbb with rfl | rfl
    · refine hfin imax Builtin.max2 (fun k j a b => by simp only [Builtin.max2, imax_eq]) h fun a w v hv => ?_
      refine run_builtin ho hb a w _ ?_
      have : (cl.args.map a.eval).toList = a.eval x :: rest.map a.eval := by simp [hl]
      simp [builtin, Builtin.max_]
      rw [hl]
      simp [hv]
    · refine hfin imin Builtin.min2 (fun k j a b => by simp only [Builtin.min2, imin_eq]) h fun a w v hv => ?_
      refine run_builtin ho hb a w _ ?_
      simp [builtin, Builtin.min_]
      rw [hl]
      simp [hv]
  · exact bad_pure
end
end Go.Ev
namespace Go.Ev
open Go

/-- What a call does. -/
def CallDoes (P : Program) (f : FuncId) (args : List AV) (st : St) (r : AV) (st' : St) : Prop :=
  ∀ (G : Gh) (w : World) (vs : Array Value), VRs G args vs.toList → Rel G st.h w → GlobR P G →
    ((callFunc f vs).run P w = .ok (.enter f vs) w ∧ Calls P f vs w fun e w' => ∃ v G', e = .returned v ∧ Sim G st.h w G' st'.h w' ∧ VR G' r v) ∨
    (∃ v w' G', (callFunc f vs).run P w = .ok (.value v) w' ∧ Sim G st.h w G' st'.h w' ∧ VR G' r v)
def CallOK (P : Program) (call : CallT) : Prop := ∀ f args st k A, call f args st k = A → A ≠ .bad → ∃ r st', k r st' = A ∧ CallDoes P f args st r st'

/-- Good answers are those of operations that do something, over this way to call. -/
def DoesC (P : Program) (o : Oper) (c : Operand → Option Opd) (m : M) (call : CallT) : Prop :=
  ∀ ρ env st k A, m.v call ρ env st k = A → A ≠ .bad → ∃ r st', k r st' = A ∧ Does P o c ρ env st r st'

section
variable {P : Program} {o : Oper} {c : Operand → Option Opd}
theorem DoesM.at {m : M} (h : DoesM P o c m) (call : CallT) : DoesC P o c m call := h call
theorem PureM.at {m : M} (h : PureM P o c m) (call : CallT) : DoesC P o c m call := h.looks.does call
theorem LooksM.at {m : M} (h : LooksM P o c m) (call : CallT) : DoesC P o c m call := h.does call
theorem bad_at (call : CallT) : DoesC P o c hBad call := bad_does call

theorem does_call {f : FuncId} {args : List AV} {ρ : List AV} {env : Env} {st st' : St} {r : AV} (hd : CallDoes P f args st r st')
    (h : ∀ (G : Gh) (w : World) (a : Act), EnvOK G c ρ env a o.op.operands → Rel G st.h w → ∃ vs : Array Value, VRs G args vs.toList ∧ (execOp a.eval o).run P w = (callFunc f vs).run P w) : Does P o c ρ env st r st' := fun G w a hE hR hG next Q hn => by
  obtain ⟨vs, h1, h2⟩ := h G w a hE hR
  unfold Oper.wp
  rw [h2]
  rcases hd G w vs h1 hR hG with ⟨e, hc⟩ | ⟨v, w', G', e, hs, hv⟩
  · rw [e, Oper.upon_enter]
    refine hc.mono fun e w' he => ?_
    obtain ⟨v, G', rfl, hs, hv⟩ := he
    exact hn G' v w' hs hv
  · rw [e]
    exact hn G' v w' hs hv

theorem call_c {call : CallT} (hc : CallOK P call) {cl : Call} {f : FuncId} {xs : List Opd} (ho : o.op = .call cl) (hb : cl.callee = .value (.func f)) (hargs : cOpndsW c cl.args.toList = some xs) : DoesC P o c (hCall f xs) call := fun ρ env st k A h hA => by
  simp only [hCall, getsK_eq] at h
  obtain ⟨r, st', h, hd⟩ := hc _ _ _ _ _ h hA
  refine ⟨r, st', h, does_call hd fun G w a hE hR => ⟨cl.args.map a.eval, ?_, ?_⟩⟩
  · have := opnds_ok (G := G) (ρ := ρ) (env := env) (a := a) hargs (fun y hy Y hY => hE y (by rw [ho]; simp only [Op.operands, Call.operands, hb]; simp; exact .inr (by simpa using hy)) Y hY)
    simpa using this
  · simp [execOp, ho, resolve, hb, Deferred.ofValue, Act.eval, invoke]

theorem callV_c {call : CallT} (hc : CallOK P call) {cl : Call} {f : Operand} {X : Opd} {xs : List Opd} (ho : o.op = .call cl) (hb : cl.callee = .value f) (hx : c f = some X) (hargs : cOpndsW c cl.args.toList = some xs) : DoesC P o c (hCallV X xs) call := fun ρ env st k A h hA => by
  simp only [hCallV] at h
  rw [on_eq] at h
  obtain ⟨g, h⟩ := p_when h hA
  rw [beq_iff] at g
  rw [getsK_eq, fL_eq] at h
  obtain ⟨r, st', h, hd⟩ := hc _ _ _ _ _ h hA
  refine ⟨r, st', h, does_call hd fun G w a hE hR => ?_⟩
  have memf : f ∈ o.op.operands := by rw [ho]; simp [Op.operands, Call.operands, hb]
  obtain ⟨us, vs, v1, v2, v3⟩ := (hE f memf _ hx).i13 g
  have hargs' := opnds_ok (G := G) (ρ := ρ) (env := env) (a := a) hargs (fun y hy Y hY => hE y (by rw [ho]; simp only [Op.operands, Call.operands, hb]; simp; exact .inr (by simpa using hy)) Y hY)
  refine ⟨us ++ cl.args.map a.eval ++ vs, ?_, ?_⟩
  · have h1 := v3.take us.size
    have h2 := v3.drop us.size
    have e1 : (us.toList ++ vs.toList).take us.size = us.toList := by rw [← Array.length_toList]; simp
    have e2 : (us.toList ++ vs.toList).drop us.size = vs.toList := by rw [← Array.length_toList]; simp
    rw [e1, v2] at h1
    rw [e2, v2] at h2
    have := h1.append (hargs'.append h2)
    simpa using this
  · simp [execOp, ho, resolve, hb, Deferred.ofValue, v1, invoke]
end
end Go.Ev
namespace Go.Ev
open Go

section
variable {P : Program} {o : Oper} {c : Operand → Option Opd} {call : CallT}

theorem opnds_two {xs : List Operand} {a b : Opd} (h : cOpndsW c xs = some [a, b]) : ∃ x y, xs = [x, y] ∧ c x = some a ∧ c y = some b := by
  cases xs with
  | nil => cases h
  | cons x xs =>
    simp only [cOpndsW] at h
    split at h
    · cases h
    · rename_i X hX
      split at h
      · cases h
      · rename_i Ys hYs
        cases h
        cases xs with
        | nil => cases hYs
        | cons y ys =>
          simp only [cOpndsW] at hYs
          split at hYs
          · cases hYs
          · rename_i Y hY
            split at hYs
            · cases hYs
            · rename_i Zs hZs
              cases hYs
              cases ys with
              | nil => exact ⟨x, y, rfl, hX, hY⟩
              | cons z zs =>
                simp only [cOpndsW] at hZs
                split at hZs
                · cases hZs
                · split at hZs
                  · cases hZs
                  · cases hZs
theorem opnds_one {xs : List Operand} {a : Opd} (h : cOpndsW c xs = some [a]) : ∃ x, xs = [x] ∧ c x = some a := by
  cases xs with
  | nil => cases h
  | cons x xs =>
    simp only [cOpndsW] at h
    split at h
    · cases h
    · rename_i X hX
      split at h
      · cases h
      · rename_i Ys hYs
        cases h
        cases xs with
        | nil => exact ⟨x, rfl, hX⟩
        | cons y ys =>
          simp only [cOpndsW] at hYs
          split at hYs
          · cases hYs
          · split at hYs
            · cases hYs
            · cases hYs
theorem arr_of {α : Type} {a : Array α} {l : List α} (h : a.toList = l) : a = l.toArray := by rw [← h]

theorem append_c {cl : Call} {s x : Opd} {t u : TypeId} (ho : o.op = .call cl) (hb : cl.callee = .builtin .append) (hargs : cOpndsW c cl.args.toList = some [s, x]) (hty : cl.argTypes.toList = [t, u]) : DoesC P o c (cAppend P t u s x) call := by
  obtain ⟨S, X, hl, hs, hx⟩ := opnds_two hargs
  have hargs' := arr_of hl
  have hty' := arr_of hty
  unfold cAppend
  split
  · rename_i el hu
    split
    · rename_i inf hi
      split
      · rename_i z hz
        split
        · rename_i hc
          obtain ⟨inf', zv, i1, i2, i3⟩ := zero_ok hz
          rw [hi] at i1
          cases i1
          have hzs : zv.cells.size = inf.size := by
            have := (i3 ⟨fun _ _ => none, fun _ => 0⟩).cells.length
            simp at this; omega
          split
          · rename_i kn hk
            exact (appendZ_d ho hb hargs' hty' hs hx hu hk hi hz hc.1 hc.2).at call
          · rename_i e' hk
            exact (append_d ho hb hargs' hty' hs hx hu (.inl ⟨e', hk⟩) hi i2 hc.1 hzs).at call
          · rename_i hk
            exact (append_d ho hb hargs' hty' hs hx hu (.inr hk) hi i2 hc.1 hzs).at call
          · exact bad_at call
        · exact bad_at call
      · exact bad_at call
    · exact bad_at call
  · exact bad_at call

theorem cCall_ok (hc : CallOK P call) {cl : Call} {xs : List Opd} (ho : o.op = .call cl) (hargs : cOpndsW c cl.args.toList = some xs) : DoesC P o c (cCall P c cl xs) call := by
  unfold cCall
  split
  · rename_i f hf
    split
    · exact call_c hc ho hf hargs
    · split
      · rename_i x hx
        exact callV_c hc ho hf hx hargs
      · exact bad_at call
  · exact bad_at call
  · rename_i b hb
    split
    · exact bad_at call
    · rename_i t ht
      split
      · split
        · split
          · rename_i hty
            exact append_c ho hb hargs hty
          · exact bad_at call
        · exact bad_at call
      · split
        · obtain ⟨x, y, hl, h1, h2⟩ := opnds_two hargs
          exact (copy_d ho hb (arr_of hl) ht h1 h2).at call
        · exact bad_at call
      · split
        · obtain ⟨x, hl, h1⟩ := opnds_one hargs
          exact (len_l ho hb (arr_of hl) ht h1).at call
        · exact bad_at call
      · split
        · obtain ⟨x, hl, h1⟩ := opnds_one hargs
          exact (cap_l ho hb (arr_of hl) ht h1).at call
        · exact bad_at call
      · exact (mm_p ho hb (.inl rfl) hargs).at call
      · exact (mm_p ho hb (.inr rfl) hargs).at call
      · split
        · obtain ⟨x, hl, h1⟩ := opnds_one hargs
          exact (clear_d ho hb (arr_of hl) ht h1).at call
        · exact bad_at call
      · split
        · obtain ⟨x, y, hl, h1, h2⟩ := opnds_two hargs
          exact (delete_d ho hb (arr_of hl) ht h1 h2).at call
        · exact bad_at call
      · split
        · obtain ⟨x, hl, h1⟩ := opnds_one hargs
          exact (sliceData_p ho hb (arr_of hl) h1).at call
        · exact bad_at call
      · split
        · split
          · rename_i a b hty
            obtain ⟨x, y, hl, h1, h2⟩ := opnds_two hargs
            have hty' := arr_of hty
            have ha : a = t := by rw [hty'] at ht; simpa using ht
            subst ha
            exact (unsafeStr_d ho hb (arr_of hl) hty' h1 h2).at call
          · exact bad_at call
        · exact bad_at call
      · exact bad_at call

theorem nilP {x : Operand} (h : isNilP x = true) : x = .const (.pointer none) := by
  unfold isNilP at h; split at h
  · rfl
  · cases h
theorem nilS {x : Operand} (h : isNilS x = true) : x = .const (.slice none 0 0) := by
  unfold isNilS at h; split at h
  · rfl
  · cases h
theorem nilM {x : Operand} (h : isNilM x = true) : x = .const (.map none) := by
  unfold isNilM at h; split at h
  · rfl
  · cases h
theorem nilF {x : Operand} (h : isNilF x = true) : x = .const .nilFunc := by
  unfold isNilF at h; split at h
  · rfl
  · cases h
theorem nilI {x : Operand} (h : isNilI x = true) : x = .const .nilIface := by
  unfold isNilI at h; split at h
  · rfl
  · cases h

theorem cNil_ok {neg : Bool} {t u : TypeId} {x y : Operand} {X Y : Opd} {d : TypeDesc} {g0 : Nat} {nv : Value} {nx ny : Bool} {m : M} (hd : NilT d g0 nv) (ho : o.op = .binOp (if neg then .neq else .eql) t x y u) (hx : c x = some X) (hy : c y = some Y) (hu : P.underlying t = some d)
    (h1 : nx = true → x = .const nv) (h2 : ny = true → y = .const nv) (hm : DoesC P o c m call) : DoesC P o c (cNil g0 nx ny neg X Y m) call := by
  unfold cNil
  split
  · rename_i h
    exact (nilEq_p hd ho hx hu (.inl ⟨rfl, h2 h⟩)).at call
  · split
    · rename_i h
      exact (nilEq_p hd ho hy hu (.inr ⟨rfl, h1 h⟩)).at call
    · exact hm

theorem cEql_ok {neg : Bool} {t u : TypeId} {x y : Operand} {X Y : Opd} (ho : o.op = .binOp (if neg then .neq else .eql) t x y u) (hx : c x = some X) (hy : c y = some Y) : DoesC P o c (cEql P neg t x y X Y) call := by
  unfold cEql
  split
  · rename_i hu; exact (boolEq_p ho hx hy hu).at call
  · cases neg
    · exact (cmp_p ho hx hy (.inr (.inr (.inr (.inr (.inl ⟨rfl, rfl⟩)))))).at call
    · exact (cmp_p ho hx hy (.inr (.inr (.inr (.inr (.inr ⟨rfl, rfl⟩)))))).at call
  · cases neg
    · exact (str_p ho hx hy (.inr (.inr (.inr (.inr (.inl ⟨rfl, rfl⟩)))))).at call
    · exact (str_p ho hx hy (.inr (.inr (.inr (.inr (.inr ⟨rfl, rfl⟩)))))).at call
  · rename_i fs hu
    split
    · exact bad_at call
    · rename_i hg
      split
      · rename_i offs hf
        exact (aggEq_p ho hx hy hu (by simpa using hg) hf).at call
      · exact bad_at call
  · rename_i el hu
    refine cNil_ok (.inl ⟨el, rfl, rfl, rfl⟩) ho hx hy hu nilP nilP ?_
    split
    · rename_i n hs
      split
      · rename_i h0; exact (ptrEq_p ho hx hy hu hs h0).at call
      · exact bad_at call
    · exact bad_at call
  · rename_i el hu
    exact cNil_ok (.inr (.inl ⟨el, rfl, rfl, rfl⟩)) ho hx hy hu nilS nilS (bad_at call)
  · rename_i kt et hu
    exact cNil_ok (.inr (.inr (.inl ⟨kt, et, rfl, rfl, rfl⟩))) ho hx hy hu nilM nilM (bad_at call)
  · rename_i a b e hu
    exact cNil_ok (.inr (.inr (.inr (.inl ⟨a, b, e, rfl, rfl, rfl⟩)))) ho hx hy hu nilF nilF (bad_at call)
  · rename_i ms hu
    exact cNil_ok (.inr (.inr (.inr (.inr ⟨ms, rfl, rfl, rfl⟩)))) ho hx hy hu nilI nilI (bad_at call)
  · exact bad_at call

theorem cBin_ok {op : BinOp} {t u : TypeId} {x y : Operand} {X Y : Opd} (ho : o.op = .binOp op t x y u) (hx : c x = some X) (hy : c y = some Y) : DoesC P o c (cBin P op t x y X Y) call := by
  unfold cBin
  split
  · exact cEql_ok (neg := false) ho hx hy
  · exact cEql_ok (neg := true) ho hx hy
  · exact (shl_p ho hx hy).at call
  · exact (shr_p ho hx hy).at call
  · exact (intNZ_p ho hx hy fun k a b w h => run_iQuo k a b t w h).at call
  · exact (intNZ_p ho hx hy fun k a b w h => run_iRem k a b t w h).at call
  · exact (int_p ho hx hy fun k a b w => run_iSub k a b t w).at call
  · exact (int_p ho hx hy fun k a b w => run_iMul k a b t w).at call
  · exact (int_p ho hx hy fun k a b w => run_iAnd k a b t w).at call
  · exact (int_p ho hx hy fun k a b w => run_iOr k a b t w).at call
  · exact (int_p ho hx hy fun k a b w => run_iXor k a b t w).at call
  · exact (int_p ho hx hy fun k a b w => run_iAndNot k a b t w).at call
  · split
    · exact (cat_p ho hx hy).at call
    · exact (int_p ho hx hy fun k a b w => run_iAdd k a b t w).at call
  · split
    · exact (str_p ho hx hy (.inl ⟨rfl, rfl⟩)).at call
    · exact (cmp_p ho hx hy (.inl ⟨rfl, rfl⟩)).at call
  · split
    · exact (str_p ho hx hy (.inr (.inl ⟨rfl, rfl⟩))).at call
    · exact (cmp_p ho hx hy (.inr (.inl ⟨rfl, rfl⟩))).at call
  · split
    · exact (str_p ho hx hy (.inr (.inr (.inl ⟨rfl, rfl⟩)))).at call
    · exact (cmp_p ho hx hy (.inr (.inr (.inl ⟨rfl, rfl⟩)))).at call
  · split
    · exact (str_p ho hx hy (.inr (.inr (.inr (.inl ⟨rfl, rfl⟩))))).at call
    · exact (cmp_p ho hx hy (.inr (.inr (.inr (.inl ⟨rfl, rfl⟩))))).at call
end
end Go.Ev
namespace Go.Ev
open Go

section
variable {P : Program} {o : Oper} {c : Operand → Option Opd} {call : CallT}

theorem cConv_ok {src dst : TypeId} {x : Operand} {X : Opd} (ho : o.op = .convert src dst x) (hx : c x = some X) : DoesC P o c (cConv P src dst X) call := by
  unfold cConv
  split
  · exact bad_at call
  · rename_i s hs
    split
    · rename_i k hd; exact (convInt_p ho hx hs hd).at call
    · rename_i hd
      split
      · rename_i el
        split
        · rename_i he; exact (bytesStr_l ho hx hs he hd).at call
        · exact bad_at call
      · rename_i hns
        exact (convStr_p ho hx hs hd fun e h => hns e h).at call
    · rename_i el hd
      split
      · split
        · rename_i he
          split
          · exact (strBytes_d ho hx hs he hd).at call
          · exact bad_at call
        · exact bad_at call
      · exact bad_at call
    · rename_i hd
      split
      · rename_i t
        split
        · rename_i n hn
          split
          · rename_i h0; exact (toUnsafe_l ho hx hs hn h0 hd).at call
          · exact bad_at call
        · exact bad_at call
      · exact bad_at call
    · rename_i u hd
      split
      · split
        · rename_i n hn
          split
          · rename_i h0; exact (ofUnsafe_l ho hx hs hn h0 hd).at call
          · exact bad_at call
        · exact bad_at call
      · exact bad_at call
    · exact bad_at call

theorem cSlice_ok {t : TypeId} {x : Operand} {lo hi mx : Option Operand} {X : Opd} {L H M' : Option Opd} (ho : o.op = .slice t x lo hi mx) (hx : c x = some X) (hl : cOptW c lo = some L) (hh : cOptW c hi = some H) (hm : cOptW c mx = some M') : DoesC P o c (cSlice P t X L H M') call := by
  have none_of : ∀ {y : Option Operand}, cOptW c y = some none → y = none := fun {y} h => by
    cases y with
    | none => rfl
    | some y => simp only [cOptW] at h; split at h <;> cases h
  have some_of : ∀ {y : Option Operand} {Y : Opd}, cOptW c y = some (some Y) → ∃ y', y = some y' ∧ c y' = some Y := fun {y Y} h => by
    cases y with
    | none => cases h
    | some y =>
      simp only [cOptW] at h
      split at h
      · rename_i z hz; cases h; exact ⟨y, rfl, hz⟩
      · cases h
  unfold cSlice
  split
  · rename_i hu
    split
    · obtain rfl := none_of hm
      exact (sliceStr_p ho hu hx hl hh).at call
    · exact bad_at call
  · rename_i el hu
    split
    · exact bad_at call
    · rename_i e hs
      split
      · obtain rfl := none_of hm
        exact (sliceSl_p ho hu hs hx hl hh).at call
      · obtain ⟨m', rfl, hm'⟩ := some_of hm
        split
        · obtain ⟨h', rfl, hh'⟩ := some_of hh
          exact (sliceSl3_p ho hu hs hx hl hh' hm').at call
        · exact bad_at call
  · rename_i n el hu
    split
    · obtain rfl := none_of hm
      split
      · rename_i e hs
        split
        · rename_i he; exact (sliceArr_l ho hu hs he hx hl hh).at call
        · exact bad_at call
      · exact bad_at call
    · exact bad_at call
  · exact bad_at call

theorem cop_ok (hc : CallOK P call) (o : Oper) (c : Operand → Option Opd) : DoesC P o c (cop P c o.op) call := by
  cases ho : o.op with
  | move x =>
    show DoesC P o c (dMove x P c) call
    unfold dMove; split
    · rename_i X hX; exact (move_p (.inl ho) hX).at call
    · exact bad_at call
  | assign x =>
    show DoesC P o c (dAssign x P c) call
    unfold dAssign; split
    · rename_i X hX; exact (move_p (.inr ho) hX).at call
    · exact bad_at call
  | pick q a b =>
    show DoesC P o c (dPick q a b P c) call
    unfold dPick; split
    · rename_i Q hQ; split
      · rename_i A hA; split
        · rename_i B hB; exact (pick_p ho hQ hA hB).at call
        · exact bad_at call
      · exact bad_at call
    · exact bad_at call
  | alloc t =>
    show DoesC P o c (dAlloc t P c) call
    unfold dAlloc; split
    · rename_i z hz; split
      · rename_i n hn; split
        · rename_i hl; exact (alloc_d ho z n hz hn hl).at call
        · exact bad_at call
      · exact bad_at call
    · exact bad_at call
  | box t x =>
    show DoesC P o c (dBox t x P c) call
    unfold dBox; split
    · rename_i X hX; exact (box_d ho hX).at call
    · exact bad_at call
  | build t parts => exact (build_p ho).at call
  | buildSlice t n parts => exact (buildSl_d ho).at call
  | load t a =>
    show DoesC P o c (dLoad t a P c) call
    unfold dLoad; split
    · rename_i X hX; exact (load_l ho hX).at call
    · exact bad_at call
  | store t a x =>
    show DoesC P o c (dStore t a x P c) call
    unfold dStore; split
    · rename_i X hX; split
      · rename_i Y hY; exact (store_d ho hX hY).at call
      · exact bad_at call
    · exact bad_at call
  | nilCheck x =>
    show DoesC P o c (dNilCheck x P c) call
    unfold dNilCheck; split
    · rename_i X hX; exact (nilCheck_p ho hX).at call
    · exact bad_at call
  | binOp op t x y u =>
    show DoesC P o c (dBinOp op t x y u P c) call
    unfold dBinOp; split
    · rename_i X hX; split
      · rename_i Y hY; exact cBin_ok ho hX hY
      · exact bad_at call
    · exact bad_at call
  | unOp op t x =>
    show DoesC P o c (dUnOp op t x P c) call
    unfold dUnOp; split
    · rename_i X hX
      unfold cUn; split
      · exact (neg_p ho hX).at call
      · exact (not_p ho hX).at call
      · exact bad_at call
    · exact bad_at call
  | convert s d x =>
    show DoesC P o c (dConvert s d x P c) call
    unfold dConvert; split
    · rename_i X hX; exact cConv_ok ho hX
    · exact bad_at call
  | makeInterface t x =>
    show DoesC P o c (dMakeInterface t x P c) call
    unfold dMakeInterface; split
    · rename_i X hX; split
      · exact bad_at call
      · rename_i d hne hu; exact (iface_p ho hX hu fun ms h => hne ms h).at call
      · exact bad_at call
    · exact bad_at call
  | makeFunc fn first cap =>
    show DoesC P o c (dMakeFunc fn first cap P c) call
    unfold dMakeFunc; split
    · split
      · rename_i us hus; exact (makeFunc_p ho hus).at call
      · exact bad_at call
    · exact bad_at call
  | makeMap t r =>
    show DoesC P o c (dMakeMap t r P c) call
    unfold dMakeMap; split
    · exact (makeMap_d ho).at call
    · exact bad_at call
  | makeSlice t l k =>
    show DoesC P o c (dMakeSlice t l k P c) call
    unfold dMakeSlice; split
    · rename_i L hL; split
      · rename_i K hK; exact (makeSl_d ho hL hK).at call
      · exact bad_at call
    · exact bad_at call
  | slice t x lo hi mx =>
    show DoesC P o c (dSlice t x lo hi mx P c) call
    unfold dSlice; split
    · rename_i X hX; split
      · rename_i L hL; split
        · rename_i H hH; split
          · rename_i M' hM; exact cSlice_ok ho hX hL hH hM
          · exact bad_at call
        · exact bad_at call
      · exact bad_at call
    · exact bad_at call
  | fieldAddr s x f =>
    show DoesC P o c (dFieldAddr s x f P c) call
    unfold dFieldAddr; split
    · rename_i X hX; exact (fieldAddr_p ho hX).at call
    · exact bad_at call
  | field s x f =>
    show DoesC P o c (dField s x f P c) call
    unfold dField; split
    · rename_i X hX; exact (field_p ho hX).at call
    · exact bad_at call
  | indexAddr t x i =>
    show DoesC P o c (dIndexAddr t x i P c) call
    unfold dIndexAddr; split
    · rename_i X hX; split
      · rename_i I hI; exact (indexAddr_p ho hX hI).at call
      · exact bad_at call
    · exact bad_at call
  | index t x i =>
    show DoesC P o c (dIndex t x i P c) call
    unfold dIndex; split
    · rename_i X hX; split
      · rename_i I hI; exact (index_p ho hX hI).at call
      · exact bad_at call
    · exact bad_at call
  | lookup t m k ok =>
    show DoesC P o c (dLookup t m k ok P c) call
    unfold dLookup; split
    · rename_i M' hM; split
      · rename_i K hK; exact (lookup_l ho hM hK).at call
      · exact bad_at call
    · exact bad_at call
  | mapUpdate t m k v =>
    show DoesC P o c (dMapUpdate t m k v P c) call
    unfold dMapUpdate; split
    · rename_i M' hM; split
      · rename_i K hK; split
        · rename_i V hV; exact (update_d ho hM hK hV).at call
        · exact bad_at call
      · exact bad_at call
    · exact bad_at call
  | range t x =>
    show DoesC P o c (dRange t x P c) call
    unfold dRange; split
    · rename_i X hX; split
      · rename_i hs
        have hu : P.underlying t = some .string := by
          unfold isStrT at hs; split at hs
          · assumption
          · cases hs
        exact (range_d ho hX hu).at call
      · exact bad_at call
    · exact bad_at call
  | next x b =>
    show DoesC P o c (dNext x b P c) call
    unfold dNext; split
    · split
      · rename_i X hX; exact (next_d ho hX).at call
      · exact bad_at call
    · exact bad_at call
  | extract x i =>
    show DoesC P o c (dExtract x i P c) call
    unfold dExtract; split
    · rename_i X hX; exact (extract_p ho hX).at call
    · exact bad_at call
  | call cl =>
    show DoesC P o c (dCall cl P c) call
    unfold dCall; split
    · rename_i xs hxs; exact cCall_ok hc ho hxs
    · exact bad_at call
  | _ => exact bad_at call
end
end Go.Ev
