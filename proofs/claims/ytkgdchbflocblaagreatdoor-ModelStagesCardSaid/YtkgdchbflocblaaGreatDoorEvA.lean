/- An evaluator of the program's code over values without memory's addresses: definitions alone. Conditions: none. -/
import GoSem.Step
set_option linter.unusedVariables false
namespace Go.Ev
noncomputable section

/- small parts -/
def bsel {α : Type} (b : Bool) (x y : α) : α := Bool.rec y x b
def hd {α : Type} (d : α) (l : List α) : α := List.rec (motive := fun _ => α) d (fun x _ _ => x) l
def tl {α : Type} (l : List α) : List α := List.rec (motive := fun _ => List α) [] (fun _ xs _ => xs) l
def isEmp {α : Type} (l : List α) : Bool := List.rec (motive := fun _ => Bool) true (fun _ _ _ => false) l
def nth {α : Type} (d : α) (n : Nat) (l : List α) : α := Nat.rec (motive := fun _ => List α → α) (fun l => hd d l) (fun _ ih l => ih (tl l)) n l

/-- A box: what stands in it is reduced once. -/
structure Bx (α : Type) where
  v : α

inductive Tr (α : Type) where
  | e
  | n (l : Tr α) (v : α) (r : Tr α)
  deriving Inhabited

abbrev Id := List Bool
def Id.inc : Id → Id
  | [] => [false]
  | false :: p => true :: p
  | true :: p => false :: Id.inc p
def pathF : Nat → Nat → List Bool
  | 0, _ => []
  | f + 1, k => if k = 0 then [] else ((k % 2 == 0) :: pathF f ((k - 1) / 2))
def path (k : Nat) : List Bool := pathF k k

def Tr.get {α : Type} (d : α) (p : List Bool) (t : Tr α) : α :=
  List.rec (motive := fun _ => Tr α → α) (fun t => Tr.rec (motive := fun _ => α) d (fun _ v _ _ _ => v) t)
    (fun b _ ih t => Tr.rec (motive := fun _ => α) d (fun l _ r _ _ => bsel b (ih r) (ih l)) t) p t
/-- A value without addresses. g: its kind: 0 several (l), 1 cells (l), 2 bool (a: 0, 1), 3 integer (a: its kind, i), 4 text (a: length, b: its bytes as a number), 5 nil pointer, 6 pointer (f: family, a: member, b: place, c: cells from there), 7 nil slice, 8 slice (f, a, b; c: length, d: cells of an element, k: 0 or capacity + 1), 9 nil map, 10 map (f), 11 iterator (f), 12 nil function, 13 function (a; l: bound values, of which b stand ahead), 14 nil interface, 15 interface (a: type, l: the value). -/
structure AV where
  g : Nat
  a : Nat
  b : Nat
  c : Nat
  d : Nat
  k : Nat
  i : Int
  f : Id
  l : List AV
  deriving Inhabited
def i0 : Int := .ofNat 0
def vTup (l : List AV) : AV := ⟨0, 0, 0, 0, 0, 0, i0, [], l⟩
def vAgg (l : List AV) : AV := ⟨1, 0, 0, 0, 0, 0, i0, [], l⟩
def vBool (b : Bool) : AV := ⟨2, bsel b 1 0, 0, 0, 0, 0, i0, [], []⟩
def vInt (k : Nat) (n : Int) : AV := ⟨3, k, 0, 0, 0, 0, n, [], []⟩
def vStr (n s : Nat) : AV := ⟨4, n, s, 0, 0, 0, i0, [], []⟩
def vNil (g : Nat) : AV := ⟨g, 0, 0, 0, 0, 0, i0, [], []⟩
def vPtr (f : Id) (m o z : Nat) : AV := ⟨6, m, o, z, 0, 0, i0, f, []⟩
def vSl (f : Id) (m o n e k : Nat) : AV := ⟨8, m, o, n, e, k, i0, f, []⟩
def vMap (f : Id) : AV := ⟨10, 0, 0, 0, 0, 0, i0, f, []⟩
def vItr (f : Id) : AV := ⟨11, 0, 0, 0, 0, 0, i0, f, []⟩
def vFunc (fn n : Nat) (l : List AV) : AV := ⟨13, fn, n, 0, 0, 0, i0, [], l⟩
def vIface (t : Nat) (v : AV) : AV := ⟨15, t, 0, 0, 0, 0, i0, [], [v]⟩
def und : AV := vTup []

/-- What an address leads to. g: 0 nothing, 1 cells (cells, a: newest member, b: the least that lives, z: none may be written, t: 0 or the type + 1), 2 a map (es, a: its clock), 3 an iterator over a text (a, b, t: where). -/
structure Ent where
  key : AV
  val : AV
  born : Nat
structure Obj where
  g : Nat
  a : Nat
  b : Nat
  t : Nat
  z : Bool
  cells : List AV
  es : List Ent
  deriving Inhabited
def oNone : Obj := ⟨0, 0, 0, 0, false, [], []⟩
def oFam (cells : List AV) (cur low : Nat) (z : Bool) (ty : Nat) : Obj := ⟨1, cur, low, ty, z, cells, []⟩
def oMap (es : List Ent) (clock : Nat) : Obj := ⟨2, clock, 0, 0, false, [], es⟩
def oIter (n s p : Nat) : Obj := ⟨3, n, s, p, false, [], []⟩

structure St where
  heap : Tr Obj
  next : Id
  deriving Inhabited
abbrev Env := Tr AV

inductive Ans where
  | bad
  | fin (v : AV) (st : St)
  deriving Inhabited

abbrev KV := AV → St → Ans
abbrev CallT := FuncId → List AV → St → KV → Ans
abbrev MF := CallT → List AV → Env → St → KV → Ans
abbrev M := Bx MF
abbrev OpdF := List AV → Env → AV
abbrev Opd := Bx OpdF

/- what is handed on is reduced -/
def fN (n : Nat) (k : Nat → Ans) : Ans := Nat.rec (motive := fun _ => Ans) (k 0) (fun m _ => k (Nat.succ m)) n
def fI (n : Int) (k : Int → Ans) : Ans := Int.rec (motive := fun _ => Ans) (fun a => fN a fun a => k (.ofNat a)) (fun a => fN a fun a => k (.negSucc a)) n
def fB (b : Bool) (k : Bool → Ans) : Ans := Bool.rec (k false) (k true) b
def fV (v : AV) (k : AV → Ans) : Ans := AV.rec (motive_1 := fun _ => Ans) (motive_2 := fun _ => Unit) (fun g a b c d kk i f l _ => k ⟨g, a, b, c, d, kk, i, f, l⟩) () (fun _ _ _ _ => ()) v
def fL {α : Type} (l : List α) (k : List α → Ans) : Ans := List.rec (motive := fun _ => (List α → Ans) → Ans) (fun k => k []) (fun x _ ih k => ih fun l => k (x :: l)) l k
def Tr.setK {α : Type} (d x : α) (p : List Bool) (t : Tr α) (k : Tr α → Ans) : Ans :=
  List.rec (motive := fun _ => Tr α → (Tr α → Ans) → Ans)
    (fun t k => Tr.rec (motive := fun _ => Ans) (k (.n .e x .e)) (fun l _ r _ _ => k (.n l x r)) t)
    (fun b _ ih t k => Tr.rec (motive := fun _ => Ans) (Bool.rec (ih .e fun l => k (.n l d .e)) (ih .e fun r => k (.n .e d r)) b)
      (fun l v r _ _ => Bool.rec (ih l fun l' => k (.n l' v r)) (ih r fun r' => k (.n l v r')) b) t) p t k
def asel (b : Bool) (x y : Ans) : Ans := Bool.rec y x b
def whenK (b : Bool) (r : Ans) : Ans := Bool.rec .bad r b
def nnot (b : Bool) : Bool := Bool.rec true false b
def nand (a b : Bool) : Bool := Bool.rec false b a
def nor (a b : Bool) : Bool := Bool.rec b true a
def beqB (a b : Bool) : Bool := Bool.rec (nnot b) b a

def AV.cells (v : AV) : List AV := bsel (Nat.beq v.g 1) v.l [v]
def AV.one (v : AV) : Bool := Nat.ble 2 v.g
def allOne (l : List AV) : Bool := List.rec (motive := fun _ => Bool) true (fun v _ ih => bsel v.one ih false) l
def lenL {α : Type} (l : List α) (n : Nat) : Nat := List.rec (motive := fun _ => Nat → Nat) (fun n => n) (fun _ _ ih n => ih (Nat.succ n)) l n

def enc : List Nat → Nat
  | [] => 0
  | b :: l => b + 256 * enc l
def dec : Nat → Nat → List Nat
  | 0, _ => []
  | n + 1, s => (s % 256) :: dec n (s / 256)
def bytesOf (s : ByteArray) : List Nat := s.data.toList.map (·.toNat)
def strAV (s : ByteArray) : AV := vStr s.size (enc (bytesOf s))
def kno : IntKind → Nat
  | .i8 => 0 | .i16 => 1 | .i32 => 2 | .i64 => 3 | .u8 => 4 | .u16 => 5 | .u32 => 6 | .u64 => 7
def kof : Nat → IntKind
  | 0 => .i8 | 1 => .i16 | 2 => .i32 | 3 => .i64 | 4 => .u8 | 5 => .u16 | 6 => .u32 | _ => .u64

def ofCell : Value → Option AV
  | .bool b => some (vBool b)
  | .int k n => some (vInt (kno k) n)
  | .string s => some (strAV s)
  | .pointer none => some (vNil 5)
  | .slice none 0 0 => some (vNil 7)
  | .map none => some (vNil 9)
  | .nilFunc => some (vNil 12)
  | .nilIface => some (vNil 14)
  | _ => none
def ofCells : List Value → Option (List AV)
  | [] => some []
  | v :: vs => match ofCell v with
    | none => none
    | some x => match ofCells vs with
      | none => none
      | some xs => some (x :: xs)
def ofVal : Value → Option AV
  | .agg cs => (ofCells cs.toList).map vAgg
  | .tuple cs => (ofCells cs.toList).map vTup
  | v => ofCell v
def sizeOf? (P : Program) (t : TypeId) : Option Nat := (P.info? t).map (·.size)
def zero? (P : Program) (t : TypeId) : Option AV := (P.info? t).bind fun i => i.zero.bind ofVal
def agg? (P : Program) (t : TypeId) : Option Bool := match P.underlying t with
  | some (.struct _) => some true
  | some (.array _ _) => some true
  | some _ => some false
  | none => none

/- operands: those that the region has made (loc: their slots, the newest first), or those kept -/
def oLoc (n : Nat) : Opd := ⟨fun ρ _ => nth und n ρ⟩
def oEnv (p : List Bool) : Opd := ⟨fun _ env => Tr.get und p env⟩
def oCst (v : AV) : Opd := ⟨fun _ _ => v⟩
/-- the place of a slot among the newest (slot + 1; 0: no slot), and one; 0: it is not there -/
def locOf (t : Nat) (l : List Nat) (i : Nat) : Nat := List.rec (motive := fun _ => Nat → Nat) (fun _ => 0) (fun u _ ih i => bsel (Nat.beq u (Nat.succ t)) (Nat.succ i) (ih (Nat.succ i))) l i
/-- what is asked for outside, and how many slots there are -/
structure Cx where
  o : Nat → Bool
  n : Nat
def cTmpA (outs : Cx) (t : Nat) (i : Nat) : Option Opd := Nat.rec (motive := fun _ => Option Opd) (bsel (outs.o t) (some (oEnv (path t))) none) (fun i _ => some (oLoc i)) i
def cTmp (outs : Cx) (loc : List Nat) (t : Nat) : Option Opd := cTmpA outs t (locOf t loc 0)
def cOpnd (P : Program) (outs : Cx) (loc : List Nat) : Operand → Option Opd
  | .tmp t => cTmp outs loc t
  | .const v => (ofVal v).map oCst
  | .global g => match P.globals[g]? with
    | none => none
    | some x => match sizeOf? P x.type with
      | none => none
      | some z => some (oCst (vPtr (path g) 0 0 z))
  | .func f => some (oCst (vFunc f 0 []))
def cOpndsW (c : Operand → Option Opd) : List Operand → Option (List Opd)
  | [] => some []
  | x :: xs => match c x with
    | none => none
    | some v => match cOpndsW c xs with
      | none => none
      | some vs => some (v :: vs)
def getsK (ρ : List AV) (env : Env) (xs : List Opd) (k : List AV → Ans) : Ans := List.rec (motive := fun _ => (List AV → Ans) → Ans) (fun k => k []) (fun x _ ih k => fV (x.v ρ env) fun v => ih fun vs => k (v :: vs)) xs k
def gets (ρ : List AV) (env : Env) (xs : List Opd) : List AV := List.rec (motive := fun _ => List AV) [] (fun x _ ih => x.v ρ env :: ih) xs

/- looking into values -/
def AV.on (v : AV) (k : Nat → Nat → Nat → Nat → Nat → Nat → Int → Id → List AV → Ans) : Ans := AV.rec (motive_1 := fun _ => Ans) (motive_2 := fun _ => Unit) (fun g a b c d kk i f l _ => k g a b c d kk i f l) () (fun _ _ _ _ => ()) v
def AV.boolK (v : AV) (k : Bool → Ans) : Ans := v.on fun g a _ _ _ _ _ _ _ => whenK (Nat.beq g 2) (k (Nat.beq a 1))
def AV.intK (v : AV) (k : Nat → Int → Ans) : Ans := v.on fun g a _ _ _ _ i _ _ => whenK (Nat.beq g 3) (k a i)
def natK (n : Int) (k : Nat → Ans) : Ans := Int.rec (motive := fun _ => Ans) (fun a => k a) (fun _ => .bad) n
def AV.idxK (v : AV) (k : Nat → Ans) : Ans := v.on fun g _ _ _ _ _ i _ _ => whenK (Nat.beq g 3) (natK i k)
def AV.strK (v : AV) (k : Nat → Nat → Ans) : Ans := v.on fun g a b _ _ _ _ _ _ => whenK (Nat.beq g 4) (k a b)
def AV.ptrK (v : AV) (k : Id → Nat → Nat → Nat → Ans) : Ans := v.on fun g a b c _ _ _ f _ => whenK (Nat.beq g 6) (k f a b c)
def AV.slK (v : AV) (nil : Ans) (k : Id → Nat → Nat → Nat → Nat → Nat → Ans) : Ans := v.on fun g a b c d kk _ f _ => asel (Nat.beq g 8) (k f a b c d kk) (whenK (Nat.beq g 7) nil)
def AV.aggK (v : AV) (k : List AV → Ans) : Ans := v.on fun g _ _ _ _ _ _ _ l => whenK (Nat.beq g 1) (k l)
def AV.tupK (v : AV) (k : List AV → Ans) : Ans := v.on fun g _ _ _ _ _ _ _ l => whenK (Nat.beq g 0) (k l)
def AV.mapK (v : AV) (nil : Ans) (k : Id → Ans) : Ans := v.on fun g _ _ _ _ _ _ f _ => asel (Nat.beq g 10) (k f) (whenK (Nat.beq g 9) nil)
def AV.itrK (v : AV) (k : Id → Ans) : Ans := v.on fun g _ _ _ _ _ _ f _ => whenK (Nat.beq g 11) (k f)
def AV.cellsK (v : AV) (k : List AV → Ans) : Ans := v.on fun g a b c d kk i f l => asel (Nat.beq g 1) (k l) (k [⟨g, a, b, c, d, kk, i, f, l⟩])
def listK (l : List AV) (k : AV → Ans) : Ans := List.rec (motive := fun _ => Ans) .bad (fun a _ _ => k a) l

/- values handed on -/
def kBool (b : Bool) (st : St) (k : KV) : Ans := Bool.rec (k ⟨2, 0, 0, 0, 0, 0, .ofNat 0, [], []⟩ st) (k ⟨2, 1, 0, 0, 0, 0, .ofNat 0, [], []⟩ st) b
def kInt (j : Nat) (n : Int) (st : St) (k : KV) : Ans := fI n fun n => k ⟨3, j, 0, 0, 0, 0, n, [], []⟩ st
def kNat (n : Nat) (st : St) (k : KV) : Ans := fN n fun n => k ⟨3, 3, 0, 0, 0, 0, .ofNat n, [], []⟩ st
def kStr (n s : Nat) (st : St) (k : KV) : Ans := fN n fun n => fN s fun s => k ⟨4, n, s, 0, 0, 0, .ofNat 0, [], []⟩ st
def kPtr (f : Id) (m o z : Nat) (st : St) (k : KV) : Ans := fN o fun o => fN z fun z => k ⟨6, m, o, z, 0, 0, .ofNat 0, f, []⟩ st
def kSl (f : Id) (m o n e c : Nat) (st : St) (k : KV) : Ans := fN o fun o => fN n fun n => fN c fun c => k ⟨8, m, o, n, e, c, .ofNat 0, f, []⟩ st

/- memory -/
def Obj.on (o : Obj) (k : Nat → Nat → Nat → Nat → Bool → List AV → List Ent → Ans) : Ans := Obj.rec (motive := fun _ => Ans) (fun g a b t z cells es => k g a b t z cells es) o
def St.on (st : St) (k : Tr Obj → Id → Ans) : Ans := St.rec (motive := fun _ => Ans) (fun h n => k h n) st
def famK (st : St) (f : Id) (k : List AV → Nat → Nat → Bool → Nat → Ans) : Ans :=
  st.on fun h _ => (Tr.get oNone f h).on fun g a b t z cells _ => whenK (Nat.beq g 1) (k cells a b z t)
def mapOK (st : St) (f : Id) (k : List Ent → Nat → Ans) : Ans :=
  st.on fun h _ => (Tr.get oNone f h).on fun g a _ _ z _ es => whenK (nand (Nat.beq g 2) (nnot z)) (k es a)
def iterK (st : St) (f : Id) (k : Nat → Nat → Nat → Ans) : Ans :=
  st.on fun h _ => (Tr.get oNone f h).on fun g a b t z _ _ => whenK (nand (Nat.beq g 3) (nnot z)) (k a b t)
def putK (st : St) (f : Id) (o : Obj) (k : St → Ans) : Ans := st.on fun h n => Tr.setK oNone o f h fun h' => k ⟨h', n⟩
def incK (n : Id) (k : Id → Ans) : Ans := List.rec (motive := fun _ => (Id → Ans) → Ans) (fun k => k [false]) (fun b p ih k => Bool.rec (k (true :: p)) (ih fun p' => k (false :: p')) b) n k
def newK (st : St) (o : Obj) (k : Id → St → Ans) : Ans := st.on fun h n => (Tr.get oNone n h).on fun g _ _ _ _ _ _ => whenK (Nat.beq g 0) (Tr.setK oNone o n h fun h' => incK n fun n' => k n ⟨h', n'⟩)

def takeK (n : Nat) (l : List AV) (k : List AV → Ans) : Ans :=
  Nat.rec (motive := fun _ => List AV → (List AV → Ans) → Ans) (fun _ k => k [])
    (fun _ ih l k => List.rec (motive := fun _ => Ans) .bad (fun x xs _ => ih xs fun ys => k (x :: ys)) l) n l k
def dropK (n : Nat) (l : List AV) (k : List AV → Ans) : Ans :=
  Nat.rec (motive := fun _ => List AV → Ans) k (fun _ ih l => List.rec (motive := fun _ => Ans) .bad (fun _ xs _ => ih xs) l) n l
def readK (st : St) (f : Id) (m o n : Nat) (k : List AV → Ans) : Ans :=
  famK st f fun cells cur low _ _ => whenK (nand (Nat.ble low m) (Nat.ble m cur)) (dropK o cells fun xs => takeK n xs k)
def read1K (st : St) (f : Id) (m o : Nat) (k : AV → Ans) : Ans :=
  famK st f fun cells cur low _ _ => whenK (nand (Nat.ble low m) (Nat.ble m cur)) (dropK o cells fun xs => listK xs k)
/-- vs over the cells -/
def over0 (vs : List AV) (l : List AV) (k : List AV → Ans) : Ans :=
  List.rec (motive := fun _ => List AV → (List AV → Ans) → Ans) (fun l k => k l)
    (fun v _ ih l k => List.rec (motive := fun _ => Ans) .bad (fun _ cs _ => ih cs fun xs => k (v :: xs)) l) vs l k
def overK (o : Nat) (vs : List AV) (l : List AV) (k : List AV → Ans) : Ans :=
  Nat.rec (motive := fun _ => List AV → (List AV → Ans) → Ans) (fun l k => over0 vs l k)
    (fun _ ih l k => List.rec (motive := fun _ => Ans) .bad (fun c cs _ => ih cs fun xs => k (c :: xs)) l) o l k
def writeK (st : St) (f : Id) (m o : Nat) (vs : List AV) (k : St → Ans) : Ans :=
  famK st f fun cells cur _ frz ty => whenK (nand (Nat.beq m cur) (nand (nnot frz) (allOne vs))) (overK o vs cells fun cs => putK st f ⟨1, cur, cur, ty, false, cs, []⟩ k)
def newCellsK (st : St) (ty : TypeId) (cells : List AV) (k : Id → St → Ans) : Ans := newK st ⟨1, 0, 0, Nat.succ ty, false, cells, []⟩ k

/- integers -/
def nmin (a b : Nat) : Nat := bsel (Nat.ble a b) a b
def ile (a b : Int) : Bool := Int.rec (motive := fun _ => Bool) (fun a => Int.rec (motive := fun _ => Bool) (fun b => Nat.ble a b) (fun _ => false) b)
  (fun a => Int.rec (motive := fun _ => Bool) (fun _ => true) (fun b => Nat.ble b a) b) a
def ieq (a b : Int) : Bool := Int.rec (motive := fun _ => Bool) (fun a => Int.rec (motive := fun _ => Bool) (fun b => Nat.beq a b) (fun _ => false) b)
  (fun a => Int.rec (motive := fun _ => Bool) (fun _ => false) (fun b => Nat.beq a b) b) a
def klo (k : Nat) : Int := match k with
  | 0 => .negSucc 127 | 1 => .negSucc 32767 | 2 => .negSucc 2147483647 | 3 => .negSucc 9223372036854775807 | _ => .ofNat 0
def khi (k : Nat) : Int := match k with
  | 0 => .ofNat 127 | 1 => .ofNat 32767 | 2 => .ofNat 2147483647 | 3 => .ofNat 9223372036854775807 | 4 => .ofNat 255 | 5 => .ofNat 65535 | 6 => .ofNat 4294967295 | _ => .ofNat 18446744073709551615
def kM (k : Nat) : Nat := match k with
  | 0 => 256 | 1 => 65536 | 2 => 4294967296 | 3 => 18446744073709551616 | 4 => 256 | 5 => 65536 | 6 => 4294967296 | _ => 18446744073709551616
def khiN (k : Nat) : Nat := match k with
  | 0 => 127 | 1 => 32767 | 2 => 2147483647 | 3 => 9223372036854775807 | 4 => 255 | 5 => 65535 | 6 => 4294967295 | _ => 18446744073709551615
def kbits (k : Nat) : Nat := match k with
  | 0 => 8 | 1 => 16 | 2 => 32 | 3 => 64 | 4 => 8 | 5 => 16 | 6 => 32 | _ => 64
/-- a number modulo M -/
def modN (n : Int) (M : Nat) : Nat := Int.rec (motive := fun _ => Nat) (fun a => Nat.mod a M) (fun a => Nat.sub (Nat.pred M) (Nat.mod a M)) n
def wrapN (k : Nat) (m : Nat) : Int := bsel (Nat.ble m (khiN k)) (.ofNat m) (.negSucc (Nat.pred (Nat.sub (kM k) m)))
def wrapF (k : Nat) (n : Int) : Int := bsel (nand (ile (klo k) n) (ile n (khi k))) n (wrapN k (modN n (kM k)))
def lltB : List Nat → List Nat → Bool
  | _, [] => false
  | [], _ :: _ => true
  | a :: x, b :: y => if a < b then true else if a = b then lltB x y else false

def iAdd (k : Nat) (a b : Int) : Int := wrapF k (Int.add a b)
def iSub (k : Nat) (a b : Int) : Int := wrapF k (Int.sub a b)
def iMul (k : Nat) (a b : Int) : Int := wrapF k (Int.mul a b)
def iQuo (k : Nat) (a b : Int) : Int := wrapF k (Int.tdiv a b)
def iRem (k : Nat) (a b : Int) : Int := Int.tmod a b
def iAnd (k : Nat) (a b : Int) : Int := wrapN k (Nat.land (modN a (kM k)) (modN b (kM k)))
def iOr (k : Nat) (a b : Int) : Int := wrapN k (Nat.lor (modN a (kM k)) (modN b (kM k)))
def iXor (k : Nat) (a b : Int) : Int := wrapN k (Nat.xor (modN a (kM k)) (modN b (kM k)))
def iAndNot (k : Nat) (a b : Int) : Int := wrapN k (Nat.land (modN a (kM k)) (Nat.sub (Nat.pred (kM k)) (modN b (kM k))))
def iEq (a b : Int) : Bool := ieq a b
def iNe (a b : Int) : Bool := nnot (ieq a b)
def iLt (a b : Int) : Bool := nnot (ile b a)
def iLe (a b : Int) : Bool := ile a b
def iGt (a b : Int) : Bool := nnot (ile a b)
def iGe (a b : Int) : Bool := ile b a

/- texts -/
def sAt (s i : Nat) : Nat := Nat.mod (Nat.shiftRight s (Nat.mul 8 i)) 256
def sCut (s l k : Nat) : Nat := Nat.mod (Nat.shiftRight s (Nat.mul 8 l)) (Nat.pow 2 (Nat.mul 8 k))
def sCat (n s t : Nat) : Nat := Nat.add s (Nat.mul t (Nat.pow 2 (Nat.mul 8 n)))
def seq (n s m t : Nat) : Bool := nand (Nat.beq n m) (Nat.beq s t)
def sne (n s m t : Nat) : Bool := nnot (seq n s m t)
def slt (n s m t : Nat) : Bool := lltB (dec n s) (dec m t)
def sle (n s m t : Nat) : Bool := nor (slt n s m t) (seq n s m t)
def sgt (n s m t : Nat) : Bool := nnot (sle n s m t)
def sge (n s m t : Nat) : Bool := nnot (slt n s m t)
def validR (r : Nat) : Bool := Nat.blt r 0xD800 || (Nat.ble 0xE000 r && Nat.ble r 0x10FFFF)
def decS (n s i : Nat) : Nat × Nat :=
  let at' (k : Nat) : Nat := sAt s (i + k)
  let cont (k : Nat) : Bool := Nat.blt (i + k) n && Nat.beq (at' k / 64) 2
  let b0 := at' 0
  if Nat.blt b0 0x80 then (b0, 1)
  else if Nat.beq (b0 / 32) 6 && cont 1 then
    let c := (b0 % 32) * 64 + at' 1 % 64
    if Nat.ble 0x80 c then (c, 2) else (0xFFFD, 1)
  else if Nat.beq (b0 / 16) 14 && (cont 1 && cont 2) then
    let c := (b0 % 16) * 4096 + (at' 1 % 64) * 64 + at' 2 % 64
    if Nat.ble 0x800 c && validR c then (c, 3) else (0xFFFD, 1)
  else if Nat.beq (b0 / 8) 30 && (cont 1 && (cont 2 && cont 3)) then
    let c := (b0 % 8) * 262144 + (at' 1 % 64) * 4096 + (at' 2 % 64) * 64 + at' 3 % 64
    if Nat.ble 0x10000 c && validR c then (c, 4) else (0xFFFD, 1)
  else (0xFFFD, 1)

/- the operations -/
def hBad : M := ⟨fun _ _ _ _ _ => .bad⟩
def hMove (x : Opd) : M := ⟨fun _ ρ env st k => fV (x.v ρ env) fun v => k v st⟩
def hPick (c a b : Opd) : M := ⟨fun _ ρ env st k => (c.v ρ env).boolK fun t => asel t (fV (a.v ρ env) fun v => k v st) (fV (b.v ρ env) fun v => k v st)⟩
def hAlloc (ty : TypeId) (cells : List AV) (n : Nat) : M := ⟨fun _ _ _ st k => newCellsK st ty cells fun f st' => kPtr f 0 0 n st' k⟩
def hBox (ty : TypeId) (x : Opd) : M := ⟨fun _ ρ env st k => (x.v ρ env).cellsK fun cs => newCellsK st ty cs fun f st' => kPtr f 0 0 (lenL cs 0) st' k⟩
def hInt (g : Nat → Int → Int → Int) (x y : Opd) : M := ⟨fun _ ρ env st k => (x.v ρ env).intK fun j a => (y.v ρ env).intK fun j' b => whenK (Nat.beq j j') (kInt j (g j a b) st k)⟩
def hCmp (g : Int → Int → Bool) (x y : Opd) : M := ⟨fun _ ρ env st k => (x.v ρ env).intK fun j a => (y.v ρ env).intK fun j' b => whenK (Nat.beq j j') (kBool (g a b) st k)⟩
def hIntNZ (g : Nat → Int → Int → Int) (x y : Opd) : M := ⟨fun _ ρ env st k => (x.v ρ env).intK fun j a => (y.v ρ env).intK fun j' b => whenK (nand (Nat.beq j j') (nnot (ieq b (.ofNat 0)))) (kInt j (g j a b) st k)⟩
def hShl (x y : Opd) : M := ⟨fun _ ρ env st k => (x.v ρ env).intK fun j a => (y.v ρ env).idxK fun b => kInt j (wrapF j (Int.mul a (.ofNat (Nat.pow 2 (nmin b (kbits j)))))) st k⟩
def hShr (x y : Opd) : M := ⟨fun _ ρ env st k => (x.v ρ env).intK fun j a => (y.v ρ env).idxK fun b => kInt j (Int.fdiv a (.ofNat (Nat.pow 2 (nmin b (kbits j))))) st k⟩
def hStr (g : Nat → Nat → Nat → Nat → Bool) (x y : Opd) : M := ⟨fun _ ρ env st k => (x.v ρ env).strK fun n s => (y.v ρ env).strK fun m t => kBool (g n s m t) st k⟩
def hCat (x y : Opd) : M := ⟨fun _ ρ env st k => (x.v ρ env).strK fun n s => (y.v ρ env).strK fun m t => whenK (Nat.blt (Nat.add n m) 9223372036854775807) (kStr (Nat.add n m) (sCat n s t) st k)⟩
def xnot (neg b : Bool) : Bool := bsel neg (nnot b) b
def hBoolEq (neg : Bool) (x y : Opd) : M := ⟨fun _ ρ env st k => (x.v ρ env).boolK fun a => (y.v ρ env).boolK fun b => kBool (xnot neg (beqB a b)) st k⟩
def cellEqK (x y : AV) (k : Bool → Ans) : Ans :=
  asel (Nat.beq x.g 3) (y.intK fun j b => whenK (Nat.beq x.a j) (k (ieq x.i b)))
  (asel (Nat.beq x.g 4) (y.strK fun m t => k (seq x.a x.b m t))
  (x.boolK fun a => y.boolK fun b => k (beqB a b)))
/-- the cells at some places: (place, kind) -/
def cmpK (offs : List (Nat × Nat)) (x y : List AV) (k : Bool → Ans) : Ans :=
  List.rec (motive := fun _ => Ans) (k true) (fun o _ ih => dropK o.1 x fun xs => listK xs fun u => dropK o.1 y fun ys => listK ys fun v => whenK (Nat.beq u.g o.2) (cellEqK u v fun r => asel r ih (k false))) offs
def hAggEq (offs : List (Nat × Nat)) (neg : Bool) (x y : Opd) : M := ⟨fun _ ρ env st k => (x.v ρ env).aggK fun a => (y.v ρ env).aggK fun b => cmpK offs a b fun r => kBool (xnot neg r) st k⟩
/-- one against a nil that stands in the code -/
def hNilEq (g0 : Nat) (neg : Bool) (x : Opd) : M := ⟨fun _ ρ env st k => (x.v ρ env).on fun g _ _ _ _ _ _ _ _ => asel (Nat.beq g g0) (kBool (xnot neg true) st k) (whenK (Nat.beq g (Nat.succ g0)) (kBool (xnot neg false) st k))⟩
def idEq : Id → Id → Bool
  | [], [] => true
  | a :: p, b :: q => nand (beqB a b) (idEq p q)
  | _, _ => false
def hPtrEq (neg : Bool) (x y : Opd) : M := ⟨fun _ ρ env st k => (x.v ρ env).ptrK fun f m o _ => (y.v ρ env).ptrK fun f' m' o' _ => whenK (nand (idEq f f') (nand (Nat.beq m m') (Nat.beq o o'))) (kBool (nnot neg) st k)⟩

/-- where the cells of a flat type stand, and their kinds -/
def flatF (f : TypeId → Nat → Option (List (Nat × Nat))) (P : Program) (b sz : Nat) : List Field → Option (List (Nat × Nat))
  | [] => some []
  | fd :: fs => if fd.name ≠ "_" then (match sizeOf? P fd.type with
    | some n => if fd.offset + n ≤ sz ∧ fd.offset < sz then (match f fd.type (b + fd.offset) with
      | some a => (match flatF f P b sz fs with
        | some r => some (a ++ r)
        | none => none)
      | none => none) else none
    | none => none) else none
def flatOffs (P : Program) : Nat → TypeId → Nat → Option (List (Nat × Nat))
  | 0, _, _ => none
  | n + 1, t, b => match P.underlying t with
    | some .bool => some [(b, 2)]
    | some (.int _) => some [(b, 3)]
    | some .string => some [(b, 4)]
    | some (.struct fs) => if P.stoodInHeld t then none else (match sizeOf? P t with
      | some sz => flatF (flatOffs P n) P b sz fs.toList
      | none => none)
    | _ => none
def isNilP : Operand → Bool
  | .const (.pointer none) => true
  | _ => false
def isNilS : Operand → Bool
  | .const (.slice none 0 0) => true
  | _ => false
def isNilM : Operand → Bool
  | .const (.map none) => true
  | _ => false
def isNilF : Operand → Bool
  | .const .nilFunc => true
  | _ => false
def isNilI : Operand → Bool
  | .const .nilIface => true
  | _ => false
def cNil (g0 : Nat) (nx ny : Bool) (neg : Bool) (x y : Opd) (m : M) : M := if ny then hNilEq g0 neg x else if nx then hNilEq g0 neg y else m
def cEql (P : Program) (neg : Bool) (t : TypeId) (X Y : Operand) (x y : Opd) : M := match P.underlying t with
  | some .bool => hBoolEq neg x y
  | some (.int _) => hCmp (if neg then iNe else iEq) x y
  | some .string => hStr (if neg then sne else seq) x y
  | some (.struct _) => if P.eqGuardType P.depth t then hBad else (match flatOffs P 8 t 0 with
    | some offs => hAggEq offs neg x y
    | none => hBad)
  | some (.pointer el) => cNil 5 (isNilP X) (isNilP Y) neg x y (match sizeOf? P el with
    | some n => if 0 < n then hPtrEq neg x y else hBad
    | none => hBad)
  | some (.slice _) => cNil 7 (isNilS X) (isNilS Y) neg x y hBad
  | some (.map _ _) => cNil 9 (isNilM X) (isNilM Y) neg x y hBad
  | some (.func _ _ _) => cNil 12 (isNilF X) (isNilF Y) neg x y hBad
  | some (.interface _) => cNil 14 (isNilI X) (isNilI Y) neg x y hBad
  | _ => hBad
def isStrT (P : Program) (t : TypeId) : Bool := match P.underlying t with
  | some .string => true
  | _ => false
def cBin (P : Program) (op : BinOp) (t : TypeId) (X Y : Operand) (x y : Opd) : M := match op with
  | .eql => cEql P false t X Y x y
  | .neq => cEql P true t X Y x y
  | .shl => hShl x y
  | .shr => hShr x y
  | .quo => hIntNZ iQuo x y
  | .rem => hIntNZ iRem x y
  | .sub => hInt iSub x y
  | .mul => hInt iMul x y
  | .and => hInt iAnd x y
  | .or => hInt iOr x y
  | .xor => hInt iXor x y
  | .andNot => hInt iAndNot x y
  | .add => if isStrT P t then hCat x y else hInt iAdd x y
  | .lss => if isStrT P t then hStr slt x y else hCmp iLt x y
  | .leq => if isStrT P t then hStr sle x y else hCmp iLe x y
  | .gtr => if isStrT P t then hStr sgt x y else hCmp iGt x y
  | .geq => if isStrT P t then hStr sge x y else hCmp iGe x y
def hNeg (x : Opd) : M := ⟨fun _ ρ env st k => (x.v ρ env).intK fun j n => kInt j (iSub j (.ofNat 0) n) st k⟩
def hNot (x : Opd) : M := ⟨fun _ ρ env st k => (x.v ρ env).boolK fun b => kBool (nnot b) st k⟩
def cUn (op : UnOp) (x : Opd) : M := match op with
  | .neg => hNeg x
  | .not => hNot x
  | _ => hBad

/- memory's operations -/
def hLoadA (n : Nat) (a : Opd) : M := ⟨fun _ ρ env st k => (a.v ρ env).ptrK fun f m o z => whenK (Nat.ble n z) (readK st f m o n fun cs => k ⟨1, 0, 0, 0, 0, 0, .ofNat 0, [], cs⟩ st)⟩
def hLoad1 (a : Opd) : M := ⟨fun _ ρ env st k => (a.v ρ env).ptrK fun f m o z => whenK (Nat.ble 1 z) (read1K st f m o fun v => k v st)⟩
def cLoad (P : Program) (t : TypeId) (a : Opd) : M := match agg? P t with
  | some true => match sizeOf? P t with
    | some n => hLoadA n a
    | none => hBad
  | some false => hLoad1 a
  | none => hBad
def hStore (n : Nat) (a x : Opd) : M := ⟨fun _ ρ env st k => (a.v ρ env).ptrK fun f m o z =>
  (x.v ρ env).cellsK fun cs => whenK (nand (Nat.ble 1 n) (nand (Nat.beq (lenL cs 0) n) (Nat.ble n z))) (writeK st f m o cs fun st' => k und st')⟩
def cStore (P : Program) (t : TypeId) (a x : Opd) : M := match sizeOf? P t with
  | some n => hStore n a x
  | none => hBad
def hNilCheck (x : Opd) : M := ⟨fun _ ρ env st k => (x.v ρ env).on fun g a b c d kk i f l => whenK (Nat.beq g 6) (k ⟨g, a, b, c, d, kk, i, f, l⟩ st)⟩
def hFieldAddr (off n : Nat) (x : Opd) : M := ⟨fun _ ρ env st k => (x.v ρ env).ptrK fun f m o z => whenK (Nat.ble (Nat.add off n) z) (kPtr f m (Nat.add o off) n st k)⟩
def cFieldAddr (P : Program) (s : TypeId) (x : Opd) (fl : Nat) : M := match P.underlying s with
  | some (.struct fields) => match fields[fl]? with
    | some fd => match sizeOf? P fd.type with
      | some n => if 0 < n then hFieldAddr fd.offset n x else hBad
      | none => hBad
    | none => hBad
  | _ => hBad
def hPartA (off n : Nat) (x : Opd) : M := ⟨fun _ ρ env st k => (x.v ρ env).aggK fun cs => dropK off cs fun xs => takeK n xs fun ys => k ⟨1, 0, 0, 0, 0, 0, .ofNat 0, [], ys⟩ st⟩
def hPart1 (off : Nat) (x : Opd) : M := ⟨fun _ ρ env st k => (x.v ρ env).aggK fun cs => dropK off cs fun xs => listK xs fun v => k v st⟩
def cField (P : Program) (s : TypeId) (x : Opd) (fl : Nat) : M := match P.underlying s with
  | some (.struct fields) => match fields[fl]? with
    | some fd => match agg? P fd.type with
      | some true => match sizeOf? P fd.type with
        | some n => hPartA fd.offset n x
        | none => hBad
      | some false => hPart1 fd.offset x
      | none => hBad
    | none => hBad
  | _ => hBad
def hIndexArr (n e : Nat) (x i : Opd) : M := ⟨fun _ ρ env st k => (x.v ρ env).ptrK fun f m o z => (i.v ρ env).idxK fun j => whenK (nand (Nat.blt j n) (Nat.ble (Nat.mul (Nat.succ j) e) z)) (kPtr f m (Nat.add o (Nat.mul j e)) e st k)⟩
def hIndexSl (e : Nat) (x i : Opd) : M := ⟨fun _ ρ env st k => (x.v ρ env).slK .bad fun f m o n e' _ => (i.v ρ env).idxK fun j => whenK (nand (Nat.blt j n) (Nat.beq e e')) (kPtr f m (Nat.add o (Nat.mul j e)) e st k)⟩
def cIndexAddr (P : Program) (t : TypeId) (x i : Opd) : M := match P.underlying t with
  | some (.array n el) => match sizeOf? P el with
    | some e => if 0 < e then hIndexArr n e x i else hBad
    | none => hBad
  | some (.slice el) => match sizeOf? P el with
    | some e => hIndexSl e x i
    | none => hBad
  | _ => hBad
def hIndexStr (x i : Opd) : M := ⟨fun _ ρ env st k => (x.v ρ env).strK fun n s => (i.v ρ env).idxK fun j => whenK (Nat.blt j n) (kInt 4 (.ofNat (sAt s j)) st k)⟩
def cIndex (P : Program) (t : TypeId) (x i : Opd) : M := match P.underlying t with
  | some .string => hIndexStr x i
  | _ => hBad

/- slices -/
def boundK (d : Nat) (ρ : List AV) (env : Env) (x : Option Opd) (k : Nat → Ans) : Ans := Option.rec (motive := fun _ => Ans) (k d) (fun y => (y.v ρ env).idxK k) x
def hSliceStr (x : Opd) (lo hi : Option Opd) : M := ⟨fun _ ρ env st k => (x.v ρ env).strK fun n s => boundK 0 ρ env lo fun l => boundK n ρ env hi fun h =>
  whenK (nand (Nat.ble l h) (Nat.ble h n)) (kStr (Nat.sub h l) (sCut s l (Nat.sub h l)) st k)⟩
def subO (c l : Nat) : Nat := bsel (Nat.beq c 0) 0 (Nat.sub c l)
def hSliceSl (e : Nat) (x : Opd) (lo hi : Option Opd) : M := ⟨fun _ ρ env st k => (x.v ρ env).slK
  (boundK 0 ρ env lo fun l => boundK 0 ρ env hi fun h => whenK (nand (Nat.beq l 0) (Nat.beq h 0)) (k (vNil 7) st))
  fun f m o n e' c => boundK 0 ρ env lo fun l => boundK n ρ env hi fun h =>
    whenK (nand (Nat.beq e e') (nand (Nat.ble l h) (Nat.ble h n))) (kSl f m (Nat.add o (Nat.mul l e)) (Nat.sub h l) e (subO c l) st k)⟩
def hSliceSl3 (e : Nat) (x : Opd) (lo : Option Opd) (hi mx : Opd) : M := ⟨fun _ ρ env st k => (x.v ρ env).slK
  (boundK 0 ρ env lo fun l => (hi.v ρ env).idxK fun h => (mx.v ρ env).idxK fun j => whenK (nand (Nat.beq l 0) (nand (Nat.beq h 0) (Nat.beq j 0))) (k (vNil 7) st))
  fun f m o n e' _ => boundK 0 ρ env lo fun l => (hi.v ρ env).idxK fun h => (mx.v ρ env).idxK fun j =>
    whenK (nand (nand (Nat.beq e e') (Nat.ble l h)) (nand (Nat.ble h j) (Nat.ble j n))) (kSl f m (Nat.add o (Nat.mul l e)) (Nat.sub h l) e (Nat.succ (Nat.sub j l)) st k)⟩
def hSliceArr (n e : Nat) (x : Opd) (lo hi : Option Opd) : M := ⟨fun _ ρ env st k => (x.v ρ env).ptrK fun f m o z => famK st f fun _ cur low _ _ => boundK 0 ρ env lo fun l => boundK n ρ env hi fun h =>
  whenK (nand (nand (Nat.ble low m) (Nat.ble m cur)) (nand (Nat.ble l h) (nand (Nat.ble h n) (Nat.ble (Nat.mul n e) z)))) (kSl f m (Nat.add o (Nat.mul l e)) (Nat.sub h l) e (Nat.succ (Nat.sub n l)) st k)⟩
def cOptW (c : Operand → Option Opd) (x : Option Operand) : Option (Option Opd) := match x with
  | none => some none
  | some y => match c y with
    | some z => some (some z)
    | none => none
def cSlice (P : Program) (t : TypeId) (x : Opd) (lo hi mx : Option Opd) : M := match P.underlying t with
  | some .string => match mx with
    | none => hSliceStr x lo hi
    | some _ => hBad
  | some (.slice el) => match sizeOf? P el with
    | none => hBad
    | some e => match mx with
      | none => hSliceSl e x lo hi
      | some m => match hi with
        | some h => hSliceSl3 e x lo h m
        | none => hBad
  | some (.array n el) => match mx with
    | none => match sizeOf? P el with
      | some e => if 0 < e then hSliceArr n e x lo hi else hBad
      | none => hBad
    | some _ => hBad
  | _ => hBad

/- building -/
def cPartsW (c : Operand → Option Opd) (places : Nat → Option (Nat × Nat)) : List (Nat × Operand) → Option (List (Nat × Nat × Opd))
  | [] => some []
  | (i, x) :: xs => match c x with
    | none => none
    | some v => match places i with
      | none => none
      | some (off, size) => match cPartsW c places xs with
        | none => none
        | some vs => some ((off, size, v) :: vs)
def fillK (ρ : List AV) (env : Env) (ps : List (Nat × Nat × Opd)) (cells : List AV) (k : List AV → Ans) : Ans :=
  List.rec (motive := fun _ => List AV → Ans) k
    (fun p _ ih cells => (p.2.2.v ρ env).cellsK fun cs => whenK (Nat.beq (lenL cs 0) p.2.1) (overK p.1 cs cells ih)) ps cells
def repCells (zero : List AV) (n : Nat) : List AV := Nat.rec (motive := fun _ => List AV) [] (fun _ ih => zero ++ ih) n
def hBuild (zero : List AV) (parts : List (Nat × Nat × Opd)) : M := ⟨fun _ ρ env st k => fillK ρ env parts zero fun cs => k ⟨1, 0, 0, 0, 0, 0, .ofNat 0, [], cs⟩ st⟩
def hBuildSl (el e len : Nat) (zero : List AV) (parts : List (Nat × Nat × Opd)) : M := ⟨fun _ ρ env st k => fillK ρ env parts zero fun cs => newCellsK st el cs fun f st' => kSl f 0 0 len e (Nat.succ len) st' k⟩
def fieldPlace? (P : Program) (fields : Array Field) (i : Nat) : Option (Nat × Nat) := match fields[i]? with
  | none => none
  | some f => match sizeOf? P f.type with
    | none => none
    | some n => some (f.offset, n)
def cBuild (P : Program) (c : Operand → Option Opd) (t : TypeId) (parts : List (Nat × Operand)) : M := match zero? P t with
  | none => hBad
  | some z => match P.underlying t with
    | some (.struct fields) => if fields.toList.all fun f => (sizeOf? P f.type).isSome then
        (match cPartsW c (fieldPlace? P fields) parts with
        | some qs => hBuild z.cells qs
        | none => hBad)
      else hBad
    | some (.array _ el) => match sizeOf? P el with
      | some n => match cPartsW c (fun i => some (i * n, n)) parts with
        | some qs => hBuild z.cells qs
        | none => hBad
      | none => hBad
    | _ => hBad
def cBuildSl (P : Program) (c : Operand → Option Opd) (t : TypeId) (len : Nat) (parts : List (Nat × Operand)) : M := match P.underlying t with
  | some (.slice el) => match sizeOf? P el with
    | none => hBad
    | some n => match zero? P el with
      | none => hBad
      | some z => match cPartsW c (fun i => some (i * n, n)) parts with
        | none => hBad
        | some qs => if 0 < n ∧ z.cells.length = n ∧ len * n ≤ 16777216 then hBuildSl el n len (repCells z.cells len) qs else hBad
  | _ => hBad

/- append, copy -/
def byteCellsOf (n s : Nat) : List AV := Nat.rec (motive := fun _ => Nat → List AV) (fun _ => []) (fun _ ih s => vInt 4 (.ofNat (Nat.mod s 256)) :: ih (Nat.div s 256)) n s
def byteCellsK2 (n s : Nat) (k : List AV → Ans) : Ans := Nat.rec (motive := fun _ => Nat → (List AV → Ans) → Ans) (fun _ k => k []) (fun _ ih s k => fN (Nat.mod s 256) fun b => ih (Nat.div s 256) fun l => k (⟨3, 4, 0, 0, 0, 0, .ofNat b, [], []⟩ :: l)) n s k
def srcK (st : St) (e : Nat) (x : AV) (k : Nat → List AV → Ans) : Ans :=
  asel (Nat.beq x.g 8) (whenK (Nat.beq e x.d) (asel (Nat.beq x.c 0) (k 0 []) (readK st x.f x.a x.b (Nat.mul x.c e) fun cs => k x.c cs)))
  (asel (Nat.beq x.g 4) (whenK (Nat.beq e 1) (byteCellsK2 x.a x.b fun cs => k x.a cs))
  (whenK (Nat.beq x.g 7) (k 0 [])))
def fits (bytes n : Nat) : Bool := nand (Nat.ble (Nat.mul (Nat.add (Nat.mul 2 n) 1000) bytes) 1099511627776) (Nat.blt n 1099511627776)
def tyIs (ty el : Nat) : Nat := bsel (Nat.beq ty (Nat.succ el)) ty 0
def lowOf (top : Bool) (low cur : Nat) : Nat := bsel top low (Nat.succ cur)
/-- in place or not: the capacity is not known -/
def growK (st : St) (el : TypeId) (f : Id) (m o n e j : Nat) (cells : List AV) (k : KV) : Ans :=
  famK st f fun old cur low frz ty => whenK (nand (Nat.ble low m) (nand (Nat.ble m cur) (nand (nnot frz) (allOne cells))))
    (takeK (Nat.add o (Nat.mul n e)) old fun ahead => fL (ahead ++ cells) fun new => fN (Nat.succ cur) fun cur' => fN (lowOf (nand (Nat.beq m cur) (Nat.beq (lenL old 0) (Nat.add o (Nat.mul n e)))) low cur) fun low' => fN (tyIs ty el) fun ty' =>
      putK st f ⟨1, cur', low', ty', false, new, []⟩ fun st' => kSl f cur' o (Nat.add n j) e 0 st' k)
def appendK (el e bytes : Nat) (st : St) (s : AV) (j : Nat) (cells : List AV) (k : KV) : Ans := asel (Nat.beq j 0)
  (s.slK (k (vNil 7) st) fun _ _ _ _ e' _ => whenK (Nat.beq e e') (fV s fun v => k v st))
  (s.slK (whenK (fits bytes j) (newCellsK st el cells fun f st' => kSl f 0 0 j e 0 st' k))
    fun f m o n e' c => whenK (nand (Nat.beq e e') (fits bytes (Nat.add n j)))
      (asel (Nat.beq c 0) (growK st el f m o n e j cells k)
      (asel (Nat.blt (Nat.add n j) c)
        (writeK st f m (Nat.add o (Nat.mul n e)) cells fun st' => kSl f m o (Nat.add n j) e c st' k)
        (asel (Nat.beq n 0) (newCellsK st el cells fun g st' => kSl g 0 0 j e 0 st' k)
          (readK st f m o (Nat.mul n e) fun mine => fL (mine ++ cells) fun new => newCellsK st el new fun g st' => kSl g 0 0 (Nat.add n j) e 0 st' k)))))
def hAppend (el e bytes : Nat) (s x : Opd) : M := ⟨fun _ ρ env st k => srcK st e (x.v ρ env) fun j cells => whenK (nand (Nat.beq (lenL cells 0) (Nat.mul j e)) (allOne cells)) (appendK el e bytes st (s.v ρ env) j cells k)⟩
/-- zeros behind no slice -/
def hAppendZ (el e bytes : Nat) (zero : List AV) (s x : Opd) : M := ⟨fun _ ρ env st k => (x.v ρ env).idxK fun j => (s.v ρ env).on fun g _ _ _ _ _ _ _ _ => whenK (nand (Nat.beq g 7) (nand (Nat.blt 0 j) (fits bytes j))) (fL (repCells zero j) fun cs => newCellsK st el cs fun f st' => kSl f 0 0 j e 0 st' k)⟩
def cAppend (P : Program) (sT xT : TypeId) (s x : Opd) : M := match P.underlying sT with
  | some (.slice el) => match P.info? el with
    | some inf => match zero? P el with
      | some z => if 0 < inf.size ∧ z.cells.length = inf.size then
          (match P.underlying xT with
          | some (.int _) => hAppendZ el inf.size inf.bytes z.cells s x
          | some (.slice _) => hAppend el inf.size inf.bytes s x
          | some .string => hAppend el inf.size inf.bytes s x
          | _ => hBad)
        else hBad
      | none => hBad
    | none => hBad
  | _ => hBad
def headK (st : St) (e : Nat) (x : AV) (j : Nat) (r : List AV → Ans) : Ans :=
  asel (Nat.beq x.g 8) (whenK (Nat.beq e x.d) (readK st x.f x.a x.b (Nat.mul j e) r)) (whenK (nand (Nat.beq x.g 4) (Nat.beq e 1)) (byteCellsK2 j x.b r))
def lenK (x : AV) (k : Nat → Ans) : Ans := asel (Nat.beq x.g 8) (k x.c) (asel (Nat.beq x.g 4) (k x.a) (whenK (Nat.beq x.g 7) (k 0)))
def hCopy (e : Nat) (d s : Opd) : M := ⟨fun _ ρ env st k => lenK (s.v ρ env) fun n => (d.v ρ env).slK (kNat (0) st k) fun f m o dn e' _ =>
  whenK (Nat.beq e e') (asel (Nat.beq (nmin n dn) 0) (kNat (0) st k)
    (headK st e (s.v ρ env) (nmin n dn) fun cs => writeK st f m o cs fun st' => kNat (nmin n dn) st' k))⟩
def cCopy (P : Program) (dT : TypeId) (d s : Opd) : M := match P.underlying dT with
  | some (.slice el) => match sizeOf? P el with
    | some e => if 0 < e then hCopy e d s else hBad
    | none => hBad
  | _ => hBad
def hLenStr (x : Opd) : M := ⟨fun _ ρ env st k => (x.v ρ env).strK fun n _ => kNat (n) st k⟩
def hLenSl (x : Opd) : M := ⟨fun _ ρ env st k => (x.v ρ env).slK (kNat (0) st k) fun _ _ _ n _ _ => kNat (n) st k⟩
def hLenMap (x : Opd) : M := ⟨fun _ ρ env st k => (x.v ρ env).mapK (kNat (0) st k) fun f => mapOK st f fun es _ => kNat (lenL es 0) st k⟩
def hConst (v : AV) : M := ⟨fun _ _ _ st k => k v st⟩
def cLen (P : Program) (t : TypeId) (x : Opd) : M := match P.underlying t with
  | some .string => hLenStr x
  | some (.array n _) => hConst (vInt 3 (.ofNat n))
  | some (.slice _) => hLenSl x
  | some (.map _ _) => hLenMap x
  | _ => hBad
def hCap (x : Opd) : M := ⟨fun _ ρ env st k => (x.v ρ env).slK (kNat (0) st k) fun _ _ _ _ _ c => whenK (nnot (Nat.beq c 0)) (kNat (Nat.pred c) st k)⟩
def cCap (P : Program) (t : TypeId) (x : Opd) : M := match P.underlying t with
  | some (.slice _) => hCap x
  | _ => hBad
def mmK (g : Int → Int → Int) (j : Nat) (vs : List AV) (a : Int) (r : Int → Ans) : Ans :=
  List.rec (motive := fun _ => Int → Ans) r (fun v _ ih a => v.intK fun j' b => whenK (Nat.beq j j') (ih (g a b))) vs a
def imax (a b : Int) : Int := bsel (ile b a) a b
def imin (a b : Int) : Int := bsel (ile a b) a b
def hMM (g : Int → Int → Int) (x : Opd) (xs : List Opd) : M := ⟨fun _ ρ env st k => (x.v ρ env).intK fun j a => getsK ρ env xs fun vs => mmK g j vs a fun r => kInt j r st k⟩
def cMM (g : Int → Int → Int) (xs : List Opd) : M := match xs with
  | x :: xs => hMM g x xs
  | [] => hBad
def hClear (zero : List AV) (e : Nat) (x : Opd) : M := ⟨fun _ ρ env st k => (x.v ρ env).slK (k und st) fun f m o n e' _ => whenK (Nat.beq e e') (asel (Nat.beq n 0) (k und st)
  (fL (repCells zero n) fun cs => writeK st f m o cs fun st' => k und st'))⟩
def cClear (P : Program) (t : TypeId) (x : Opd) : M := match P.underlying t with
  | some (.slice el) => match zero? P el with
    | some z => match sizeOf? P el with
      | some e => if 0 < e ∧ z.cells.length = e then hClear z.cells e x else hBad
      | none => hBad
    | none => hBad
  | _ => hBad
def byteCellsK (l : List AV) (k : Nat → Ans) : Ans :=
  List.rec (motive := fun _ => (Nat → Ans) → Ans) (fun k => k 0) (fun v _ ih k => v.intK fun j n => whenK (Nat.beq j 4) (natK n fun b => whenK (Nat.blt b 256) (ih fun s => k (Nat.add b (Nat.mul 256 s))))) l k
def hSliceData (x : Opd) : M := ⟨fun _ ρ env st k => (x.v ρ env).slK (k (vNil 5) st) fun f m o n e _ => whenK (Nat.blt 0 n) (kPtr f m o (Nat.mul n e) st k)⟩
def hUnsafeStr (u : TypeId) (p n : Opd) : M := ⟨fun _ ρ env st k => (n.v ρ env).intK fun ik i => whenK (Nat.beq ik 3) (natK i fun j => asel (Nat.beq (p.v ρ env).g 5) (whenK (Nat.beq j 0) (kStr 0 0 st k))
  ((p.v ρ env).ptrK fun f m o z => whenK (nand (nand (Nat.blt 0 j) (Nat.beq o 0)) (nand (Nat.ble j z) (Nat.blt j 1099511627776))) (readK st f m o j fun cs => byteCellsK cs fun s => famK st f fun cells cur low frz ty =>
      whenK (nand (nnot frz) (Nat.beq ty (Nat.succ u))) (putK st f ⟨1, cur, low, ty, true, cells, []⟩ fun st' => kStr j s st' k))))⟩
def cUnsafeStr (P : Program) (t : TypeId) (p n : Opd) : M := match P.underlying t with
  | some (.pointer u) => if P.cellsOf u = 1 then hUnsafeStr u p n else hBad
  | _ => hBad

/- maps -/
def findK (q : AV) (es : List Ent) (i : Nat) (no : Ans) (yes : Nat → AV → Ans) : Ans :=
  List.rec (motive := fun _ => Nat → Ans) (fun _ => no) (fun x _ ih i => cellEqK q x.key fun b => asel b (yes i x.val) (ih (Nat.succ i))) es i
def keyT (P : Program) (kt : TypeId) : Option Nat := match P.underlying kt with
  | some (.int _) => some 3
  | some .string => some 4
  | _ => none
def okV (ok : Bool) (v : AV) (b : Bool) : AV := bsel ok (vTup [v, vBool b]) v
def kOk (ok : Bool) (v : AV) (b : Bool) (st : St) (k : KV) : Ans := fV (okV ok v b) fun w => k w st
def hLookup (g : Nat) (z : AV) (ok : Bool) (m q : Opd) : M := ⟨fun _ ρ env st k => whenK (Nat.beq (q.v ρ env).g g) ((m.v ρ env).mapK (kOk ok z false st k)
  fun f => mapOK st f fun es _ => findK (q.v ρ env) es 0 (kOk ok z false st k) fun _ v => kOk ok v true st k)⟩
def cLookup (P : Program) (t : TypeId) (m q : Opd) (ok : Bool) : M := match P.underlying t with
  | some (.map kt et) => match keyT P kt with
    | some b => match zero? P et with
      | some z => hLookup b z ok m q
      | none => hBad
    | none => hBad
  | _ => hBad
def modE (key val : AV) : Nat → List Ent → List Ent
  | _, [] => []
  | 0, x :: xs => ⟨key, val, x.born⟩ :: xs
  | i + 1, x :: xs => x :: modE key val i xs
def hUpdate (g : Nat) (m q v : Opd) : M := ⟨fun _ ρ env st k => fV (q.v ρ env) fun q => fV (v.v ρ env) fun v => whenK (Nat.beq q.g g) ((m.v ρ env).mapK .bad fun f => mapOK st f fun es c =>
  findK q es 0 (fL (es ++ [⟨q, v, c⟩]) fun es' => fN (Nat.succ c) fun c' => putK st f ⟨2, c', 0, 0, false, [], es'⟩ fun st' => k und st')
    fun i _ => fL (modE q v i es) fun es' => putK st f ⟨2, c, 0, 0, false, [], es'⟩ fun st' => k und st')⟩
def delE : Nat → List Ent → List Ent
  | _, [] => []
  | 0, _ :: xs => xs
  | i + 1, x :: xs => x :: delE i xs
def hDelete (g : Nat) (m q : Opd) : M := ⟨fun _ ρ env st k => whenK (Nat.beq (q.v ρ env).g g) ((m.v ρ env).mapK .bad fun f => mapOK st f fun es c =>
  findK (q.v ρ env) es 0 (k und st) fun i _ => fL (delE i es) fun es' => putK st f ⟨2, c, 0, 0, false, [], es'⟩ fun st' => k und st')⟩
def cUpdate (P : Program) (t : TypeId) (m q v : Opd) : M := match P.underlying t with
  | some (.map kt _) => match keyT P kt with
    | some b => hUpdate b m q v
    | none => hBad
  | _ => hBad
def cDelete (P : Program) (t : TypeId) (m q : Opd) : M := match P.underlying t with
  | some (.map kt _) => match keyT P kt with
    | some b => hDelete b m q
    | none => hBad
  | _ => hBad

/- conversions -/
def hConvInt (j : Nat) (x : Opd) : M := ⟨fun _ ρ env st k => (x.v ρ env).intK fun _ n => kInt j (wrapF j n) st k⟩
def hConvStr (x : Opd) : M := ⟨fun _ ρ env st k => asel (Nat.beq (x.v ρ env).g 3) (fV (strAV (Utf8.encode (x.v ρ env).i)) fun v => k v st) ((x.v ρ env).strK fun n s => kStr n s st k)⟩
def hBytesStr (x : Opd) : M := ⟨fun _ ρ env st k => (x.v ρ env).slK (kStr 0 0 st k) fun f m o n e _ => whenK (Nat.beq e 1) (asel (Nat.beq n 0) (kStr 0 0 st k)
  (readK st f m o n fun cs => byteCellsK cs fun s => kStr n s st k))⟩
def hStrBytes (el : TypeId) (x : Opd) : M := ⟨fun _ ρ env st k => (x.v ρ env).strK fun n s => whenK (Nat.blt 0 n) (byteCellsK2 n s fun cs => newCellsK st el cs fun f st' => kSl f 0 0 n 1 0 st' k)⟩
def hToUnsafe (x : Opd) : M := ⟨fun _ ρ env st k => (x.v ρ env).ptrK fun f m _ z => famK st f fun _ cur low _ _ => whenK (nand (Nat.blt 0 z) (nand (Nat.ble low m) (Nat.ble m cur))) (fV (x.v ρ env) fun v => k v st)⟩
def hOfUnsafe (u n : Nat) (x : Opd) : M := ⟨fun _ ρ env st k => (x.v ρ env).ptrK fun f m o z => famK st f fun _ cur low _ ty =>
  whenK (nand (nand (Nat.ble low m) (Nat.ble m cur)) (nand (Nat.beq o 0) (nand (Nat.beq ty (Nat.succ u)) (Nat.ble n z)))) (fV (x.v ρ env) fun v => k v st)⟩
def cConv (P : Program) (src dst : TypeId) (x : Opd) : M := match P.underlying src with
  | none => hBad
  | some s => match P.underlying dst with
    | some (.int k) => hConvInt (kno k) x
    | some .string => match s with
      | .slice el => match P.underlying el with
        | some (.int .u8) => hBytesStr x
        | _ => hBad
      | _ => hConvStr x
    | some (.slice el) => match s with
      | .string => match P.underlying el with
        | some (.int .u8) => match sizeOf? P el with
          | some 1 => hStrBytes el x
          | _ => hBad
        | _ => hBad
      | _ => hBad
    | some .unsafePointer => match s with
      | .pointer t => match sizeOf? P t with
        | some n => if 0 < n then hToUnsafe x else hBad
        | none => hBad
      | _ => hBad
    | some (.pointer u) => match s with
      | .unsafePointer => match sizeOf? P u with
        | some n => if 0 < n then hOfUnsafe u n x else hBad
        | none => hBad
      | _ => hBad
    | _ => hBad

/- calls -/
def hCall (f : FuncId) (xs : List Opd) : M := ⟨fun call ρ env st k => getsK ρ env xs fun vs => call f vs st k⟩
def hCallV (x : Opd) (xs : List Opd) : M := ⟨fun call ρ env st k => (x.v ρ env).on fun g a b _ _ _ _ _ l => whenK (Nat.beq g 13) (getsK ρ env xs fun vs => fL (l.take b ++ (vs ++ l.drop b)) fun ws => call a ws st k)⟩
def cCall (P : Program) (c : Operand → Option Opd) (cl : Call) (xs : List Opd) : M := match cl.callee with
  | .value f => match f with
    | .func g => hCall g xs
    | _ => match c f with
      | some x => hCallV x xs
      | none => hBad
  | .invoke _ _ => hBad
  | .builtin b => match cl.argTypes[0]? with
    | none => hBad
    | some t => match b with
      | .append => match xs with
        | [s, x] => (match cl.argTypes.toList with
          | [t, u] => cAppend P t u s x
          | _ => hBad)
        | _ => hBad
      | .copy => match xs with
        | [d, s] => cCopy P t d s
        | _ => hBad
      | .len => match xs with
        | [x] => cLen P t x
        | _ => hBad
      | .cap => match xs with
        | [x] => cCap P t x
        | _ => hBad
      | .max => cMM imax xs
      | .min => cMM imin xs
      | .clear => match xs with
        | [x] => cClear P t x
        | _ => hBad
      | .delete => match xs with
        | [m, k] => cDelete P t m k
        | _ => hBad
      | .unsafeSliceData => match xs with
        | [x] => hSliceData x
        | _ => hBad
      | .unsafeString => match xs with
        | [p, n] => (match cl.argTypes.toList with
          | [_, _] => cUnsafeStr P t p n
          | _ => hBad)
        | _ => hBad
      | _ => hBad

def hMakeFunc (f : FuncId) (n : Nat) (us : List Opd) : M := ⟨fun _ ρ env st k => getsK ρ env us fun vs => k ⟨13, f, n, 0, 0, 0, .ofNat 0, [], vs⟩ st⟩
def hIface (t : TypeId) (x : Opd) : M := ⟨fun _ ρ env st k => fV (x.v ρ env) fun v => k ⟨15, t, 0, 0, 0, 0, .ofNat 0, [], [v]⟩ st⟩
def hMakeMap : M := ⟨fun _ _ _ st k => newK st ⟨2, 0, 0, 0, false, [], []⟩ fun f st' => k ⟨10, 0, 0, 0, 0, 0, .ofNat 0, f, []⟩ st'⟩
def hMakeSl (el e bytes : Nat) (zero : List AV) (l c : Opd) : M := ⟨fun _ ρ env st k => (l.v ρ env).idxK fun n => (c.v ρ env).idxK fun j =>
  whenK (nand (Nat.ble n j) (fits bytes j)) (fL (repCells zero j) fun cs => newCellsK st el cs fun f st' => kSl f 0 0 n e (Nat.succ j) st' k)⟩
def cMakeSl (P : Program) (t : TypeId) (l c : Opd) : M := match P.underlying t with
  | some (.slice el) => match P.info? el with
    | some inf => match zero? P el with
      | some z => if 0 < inf.size ∧ z.cells.length = inf.size then hMakeSl el inf.size inf.bytes z.cells l c else hBad
      | none => hBad
    | none => hBad
  | _ => hBad
def hRange (x : Opd) : M := ⟨fun _ ρ env st k => (x.v ρ env).strK fun n s => newK st ⟨3, n, s, 0, false, [], []⟩ fun f st' => k ⟨11, 0, 0, 0, 0, 0, .ofNat 0, f, []⟩ st'⟩
def hNext (x : Opd) : M := ⟨fun _ ρ env st k => (x.v ρ env).itrK fun f => iterK st f fun n s p => asel (Nat.blt p n)
  (fN (decS n s p).1 fun c => fN (Nat.add p (decS n s p).2) fun p' => putK st f ⟨3, n, s, p', false, [], []⟩ fun st' => k (vTup [vBool true, vInt 3 (.ofNat p), vInt 2 (.ofNat c)]) st')
  (k (vTup [vBool false]) st)⟩
def hExtract (x : Opd) (i : Nat) : M := ⟨fun _ ρ env st k => (x.v ρ env).tupK fun vs => dropK i vs fun ws => listK ws fun v => k v st⟩

def dMove (x : Operand) (P : Program) (c : Operand → Option Opd) : M := match c x with
  | some x => hMove x
  | none => hBad
def dAssign (x : Operand) (P : Program) (c : Operand → Option Opd) : M := match c x with
  | some x => hMove x
  | none => hBad
def dPick (q a b : Operand) (P : Program) (c : Operand → Option Opd) : M := match c q with
  | some q => match c a with
    | some a => match c b with
      | some b => hPick q a b
      | none => hBad
    | none => hBad
  | none => hBad
def dAlloc (t : TypeId) (P : Program) (c : Operand → Option Opd) : M := match zero? P t with
  | some z => match sizeOf? P t with
    | some n => if z.cells.length = n then hAlloc t z.cells n else hBad
    | none => hBad
  | none => hBad
def dBox (t : TypeId) (x : Operand) (P : Program) (c : Operand → Option Opd) : M := match c x with
  | some x => hBox t x
  | none => hBad
def dBuild (t : TypeId) (parts : Array (Nat × Operand)) (P : Program) (c : Operand → Option Opd) : M := cBuild P c t parts.toList
def dBuildSlice (t : TypeId) (len : Nat) (parts : Array (Nat × Operand)) (P : Program) (c : Operand → Option Opd) : M := cBuildSl P c t len parts.toList
def dLoad (t : TypeId) (a : Operand) (P : Program) (c : Operand → Option Opd) : M := match c a with
  | some a => cLoad P t a
  | none => hBad
def dStore (t : TypeId) (a x : Operand) (P : Program) (c : Operand → Option Opd) : M := match c a with
  | some a => match c x with
    | some x => cStore P t a x
    | none => hBad
  | none => hBad
def dNilCheck (x : Operand) (P : Program) (c : Operand → Option Opd) : M := match c x with
  | some x => hNilCheck x
  | none => hBad
def dBinOp (op : BinOp) (t : TypeId) (X Y : Operand) (_u : TypeId) (P : Program) (c : Operand → Option Opd) : M := match c X with
  | some x => match c Y with
    | some y => cBin P op t X Y x y
    | none => hBad
  | none => hBad
def dUnOp (op : UnOp) (_t : TypeId) (x : Operand) (P : Program) (c : Operand → Option Opd) : M := match c x with
  | some x => cUn op x
  | none => hBad
def dConvert (s d : TypeId) (x : Operand) (P : Program) (c : Operand → Option Opd) : M := match c x with
  | some x => cConv P s d x
  | none => hBad
def dMakeInterface (t : TypeId) (x : Operand) (P : Program) (c : Operand → Option Opd) : M := match c x with
  | some x => match P.underlying t with
    | some (.interface _) => hBad
    | some _ => hIface t x
    | none => hBad
  | none => hBad
def dMakeFunc (fn : Fn) (first cap : Array Operand) (P : Program) (c : Operand → Option Opd) : M := match fn with
  | .func f => match cOpndsW c (first.toList ++ cap.toList) with
    | some us => hMakeFunc f first.size us
    | none => hBad
  | _ => hBad
def dMakeMap (_t : TypeId) (r : Option Operand) (P : Program) (c : Operand → Option Opd) : M := match r with
  | none => hMakeMap
  | some _ => hBad
def dMakeSlice (t : TypeId) (l k : Operand) (P : Program) (c : Operand → Option Opd) : M := match c l with
  | some l => match c k with
    | some k => cMakeSl P t l k
    | none => hBad
  | none => hBad
def dSlice (t : TypeId) (x : Operand) (lo hi mx : Option Operand) (P : Program) (c : Operand → Option Opd) : M := match c x with
  | some x => match cOptW c lo with
    | some l => match cOptW c hi with
      | some h => match cOptW c mx with
        | some m => cSlice P t x l h m
        | none => hBad
      | none => hBad
    | none => hBad
  | none => hBad
def dFieldAddr (s : TypeId) (x : Operand) (f : Nat) (P : Program) (c : Operand → Option Opd) : M := match c x with
  | some x => cFieldAddr P s x f
  | none => hBad
def dField (s : TypeId) (x : Operand) (f : Nat) (P : Program) (c : Operand → Option Opd) : M := match c x with
  | some x => cField P s x f
  | none => hBad
def dIndexAddr (t : TypeId) (x i : Operand) (P : Program) (c : Operand → Option Opd) : M := match c x with
  | some x => match c i with
    | some i => cIndexAddr P t x i
    | none => hBad
  | none => hBad
def dIndex (t : TypeId) (x i : Operand) (P : Program) (c : Operand → Option Opd) : M := match c x with
  | some x => match c i with
    | some i => cIndex P t x i
    | none => hBad
  | none => hBad
def dLookup (t : TypeId) (m k : Operand) (ok : Bool) (P : Program) (c : Operand → Option Opd) : M := match c m with
  | some m => match c k with
    | some k => cLookup P t m k ok
    | none => hBad
  | none => hBad
def dMapUpdate (t : TypeId) (m k v : Operand) (P : Program) (c : Operand → Option Opd) : M := match c m with
  | some m => match c k with
    | some k => match c v with
      | some v => cUpdate P t m k v
      | none => hBad
    | none => hBad
  | none => hBad
def dRange (t : TypeId) (x : Operand) (P : Program) (c : Operand → Option Opd) : M := match c x with
  | some x => if isStrT P t then hRange x else hBad
  | none => hBad
def dNext (x : Operand) (b : Bool) (P : Program) (c : Operand → Option Opd) : M := match b with
  | true => match c x with
    | some x => hNext x
    | none => hBad
  | false => hBad
def dExtract (x : Operand) (i : Nat) (P : Program) (c : Operand → Option Opd) : M := match c x with
  | some x => hExtract x i
  | none => hBad
def dCall (cl : Call) (P : Program) (c : Operand → Option Opd) : M := match cOpndsW c cl.args.toList with
  | some xs => cCall P c cl xs
  | none => hBad
abbrev CopT := Program → (Operand → Option Opd) → M
def cop (P : Program) (c : Operand → Option Opd) (o : Op) : M :=
  Op.rec (motive := fun _ => CopT) dMove dAssign dPick dAlloc dBox dBuild dBuildSlice (fun _ _ _ _ _ _ => hBad) dLoad dStore (fun _ _ _ => hBad) (fun _ _ _ => hBad) dNilCheck dBinOp dUnOp dConvert (fun _ _ _ _ => hBad) dMakeInterface dMakeFunc dMakeMap (fun _ _ _ _ => hBad) dMakeSlice dSlice dFieldAddr dField dIndexAddr dIndex dLookup dMapUpdate (fun _ _ _ _ _ => hBad) (fun _ _ _ _ _ _ => hBad) dRange dNext (fun _ _ _ => hBad) (fun _ _ _ _ _ _ => hBad) dExtract dCall (fun _ _ _ => hBad) (fun _ _ _ => hBad) (fun _ _ _ => hBad) (fun _ _ _ _ => hBad) (fun _ _ _ _ _ => hBad) (fun _ _ _ _ => hBad) o P c

/- regions -/
abbrev RMF := CallT → List AV → Env → St → (Env → St → Ans) → Ans
abbrev RM := Bx RMF
def hDone : RM := ⟨fun _ _ env st k => k env st⟩
/-- an operation whose value is wanted in this region alone -/
def hOpL (m : M) (rest : RM) : RM := ⟨fun call ρ env st k => m.v call ρ env st fun v st' => rest.v call (v :: ρ) env st' k⟩
/-- an operation whose value is kept -/
def hOpE (p : List Bool) (m : M) (rest : RM) : RM := ⟨fun call ρ env st k => m.v call ρ env st fun v st' => Tr.setK und v p env fun env' => rest.v call (v :: ρ) env' st' k⟩
def isB (want : Bool) (v : AV) : Bool := AV.rec (motive_1 := fun _ => Bool) (motive_2 := fun _ => Unit) (fun g a _ _ _ _ _ _ _ _ => nand (Nat.beq g 2) (beqB want (Nat.beq a 1))) () (fun _ _ _ _ => ()) v
def hGuard (x : Opd) (want : Bool) (yes no : RM) : RM := ⟨fun call ρ env st k => asel (isB want (x.v ρ env)) (yes.v call ρ env st k) (no.v call ρ env st k)⟩
def rBad : RM := ⟨fun _ _ _ _ _ => .bad⟩
def hOp (outs : Cx) (d : Option Tmp) (m : M) (rest : RM) : RM := match d with
  | some t => if t < outs.n then (if outs.o t then hOpE (path t) m rest else hOpL m rest) else rBad
  | none => hOpL m rest
def hMoveU : M := ⟨fun _ _ _ st k => k und st⟩
def dstNo (d : Option Tmp) : Nat := match d with
  | some t => Nat.succ t
  | none => 0
def cGuard (outs : Cx) (loc : List Nat) (want : Bool) (yes no : RM) (u : Nat) : RM := match u with
  | 0 => rBad
  | t + 1 => match cTmp outs loc t with
    | some x => hGuard x want yes no
    | none => rBad
def cOper (P : Program) (outs : Cx) (o : Oper) (i : Nat) (loc : List Nat) (rest : RM) : RM := match o.guard with
  | none => hOp outs o.dst (cop P (cOpnd P outs loc) o.op) rest
  | some g => if g.1 < i then cGuard outs loc g.2 (hOp outs o.dst (cop P (cOpnd P outs loc) o.op) rest) (hOp outs o.dst hMoveU rest) (nth 0 (Nat.sub (Nat.pred i) g.1) loc) else rBad
def cOps (P : Program) (outs : Cx) (l : List Oper) (i : Nat) (loc : List Nat) : RM :=
  List.rec (motive := fun _ => Program → Cx → Nat → List Nat → RM) (fun _ _ _ _ => hDone)
    (fun o _ ih P outs i loc => cOper P outs o i loc (ih P outs (Nat.succ i) (dstNo o.dst :: loc))) l P outs i loc

/- the kinds of operations: 0 hang on their operands alone, 1 look at memory, 2 make a block, 3 others -/
def kindOf (o : Op) : Nat := match o with
  | .move _ => 0
  | .assign _ => 0
  | .pick _ _ _ => 0
  | .nilCheck _ => 0
  | .binOp _ _ _ _ _ => 0
  | .unOp _ _ _ => 0
  | .fieldAddr _ _ _ => 0
  | .field _ _ _ => 0
  | .indexAddr _ _ _ => 0
  | .index _ _ _ => 0
  | .extract _ _ => 0
  | .build _ _ => 0
  | .makeInterface _ _ => 0
  | .makeFunc _ _ _ => 0
  | .load _ _ => 1
  | .lookup _ _ _ _ => 1
  | .alloc _ => 2
  | .box _ _ => 2
  | .buildSlice _ _ _ => 2
  | .makeMap _ _ => 2
  | .makeSlice _ _ _ => 2
  | _ => 3

def convKind (P : Program) (s d : TypeId) : Nat := match P.underlying d with
  | some (.int _) => 0
  | some .string => match P.underlying s with
    | some (.slice _) => 1
    | _ => 0
  | some .unsafePointer => 1
  | some (.pointer _) => 1
  | _ => 3
def callKind (P : Program) (cl : Call) : Nat := match cl.callee with
  | .builtin b => match b with
    | .len => match cl.argTypes[0]? with
      | some t => match P.underlying t with
        | some (.map _ _) => 1
        | _ => 0
      | none => 3
    | .cap => 0
    | .max => 0
    | .min => 0
    | .unsafeSliceData => 0
    | _ => 3
  | _ => 3
def sliceKind (P : Program) (t : TypeId) : Nat := match P.underlying t with
  | some (.array _ _) => 1
  | _ => 0
def kindP (P : Program) (o : Op) : Nat := match o with
  | .slice t _ _ _ _ => sliceKind P t
  | .convert s d _ => convKind P s d
  | .call cl => callKind P cl
  | _ => kindOf o


/- regions whose order is drawn -/
def idEqL : Id → Id → Bool := fun p q => List.rec (motive := fun _ => Id → Bool) (fun q => isEmp q) (fun a _ ih q => List.rec (motive := fun _ => Bool) false (fun b q' _ => nand (beqB a b) (ih q')) q) p q
def eqLF (f : AV → AV → Bool) (l m : List AV) : Bool := List.rec (motive := fun _ => List AV → Bool) (fun m => isEmp m) (fun x _ ih m => List.rec (motive := fun _ => Bool) false (fun y ys _ => nand (f x y) (ih ys)) m) l m
def avEqF (n : Nat) : AV → AV → Bool := Nat.rec (motive := fun _ => AV → AV → Bool) (fun _ _ => false) (fun _ ih x y =>
  nand (Nat.beq x.g y.g) (nand (Nat.beq x.a y.a) (nand (Nat.beq x.b y.b) (nand (Nat.beq x.c y.c) (nand (Nat.beq x.d y.d) (nand (Nat.beq x.k y.k) (nand (ieq x.i y.i) (nand (idEqL x.f y.f) (eqLF ih x.l y.l))))))))) n
def subM (a b : Nat) : Bool := Nat.beq (Nat.land a b) a
def inSet (s t : Nat) : Bool := Nat.beq (Nat.mod (Nat.shiftRight s t) 2) 1
def addTo (s t : Nat) : Nat := Nat.lor s (Nat.shiftLeft 1 t)
def opAt (l : List Oper) (i : Nat) : Option Oper := List.rec (motive := fun _ => Nat → Option Oper) (fun _ => none) (fun o _ ih i => Nat.rec (motive := fun _ => Option Oper) (some o) (fun j _ => ih j) i) l i
def bindsA (e : Edge) : Bool := match e.ground with
  | .textOnly _ => false
  | .gcOnly _ => false
  | _ => true
def ancE (f : Nat → Nat) (es : List Edge) : Nat := List.rec (motive := fun _ => Nat) 0 (fun e _ ih => bsel (bindsA e) (Nat.lor (addTo (f e.on) e.on) ih) ih) es
def fNl (n : Nat) (k : Nat → List Nat) : List Nat := Nat.rec (motive := fun _ => List Nat) (k 0) (fun m _ => k (Nat.succ m)) n
def ancsR (l : List Oper) (i : Nat) (acc : List Nat) : List Nat := List.rec (motive := fun _ => Nat → List Nat → List Nat) (fun _ acc => acc) (fun o _ ih i acc => fNl (ancE (fun j => nth 0 (Nat.sub (Nat.pred i) j) acc) o.after.toList) fun m => ih (Nat.succ i) (m :: acc)) l i acc
def wrOf (l : List Oper) (i u : Nat) : Nat := List.rec (motive := fun _ => Nat → Nat) (fun _ => 0) (fun o _ ih i => bsel (Nat.beq (dstNo o.dst) u) (addTo (ih (Nat.succ i)) i) (ih (Nat.succ i))) l i
def kMask (P : Program) (k : Nat) (l : List Oper) (i : Nat) : Nat := List.rec (motive := fun _ => Nat → Nat) (fun _ => 0) (fun o _ ih i => bsel (Nat.beq (kindP P o.op) k) (addTo (ih (Nat.succ i)) i) (ih (Nat.succ i))) l i
def kCount (P : Program) (k : Nat) (l : List Oper) : Nat := List.rec (motive := fun _ => Nat) 0 (fun o _ ih => bsel (Nat.beq (kindP P o.op) k) (Nat.succ ih) ih) l
structure Dx where
  n : Nat
  ops : List Oper
  A : List Nat
  pm : Nat
  rm : Nat
  am : Nat
  em : Nat
def Dx.anc (dx : Dx) (i : Nat) : Nat := nth 0 (Nat.sub (Nat.pred dx.n) i) dx.A
def mkDx (P : Program) (l : List Oper) : Dx := ⟨lenL l 0, l, ancsR l 0 [], kMask P 0 l 0, kMask P 1 l 0, kMask P 2 l 0, kMask P 3 l 0⟩
def readyM (dx : Dx) (D : Nat) (n : Nat) : Nat := Nat.rec (motive := fun _ => Nat) 0 (fun i ih => bsel (nand (nnot (inSet D i)) (subM (dx.anc i) D)) (addTo ih i) ih) n
def succM (dx : Dx) (e : Nat) (n : Nat) : Nat := Nat.rec (motive := fun _ => Nat) 0 (fun i ih => bsel (inSet (dx.anc i) e) (addTo ih i) ih) n
def fNn (n : Nat) (k : Nat → Nat) : Nat := Nat.rec (motive := fun _ => Nat) (k 0) (fun m _ => k (Nat.succ m)) n
def lowB (m : Nat) : Nat := Nat.log2 (Nat.sub m (Nat.land m (Nat.pred m)))
/-- which comes next -/
def pickN (dx : Dx) (D : Nat) : Nat := fNn (readyM dx D dx.n) fun r =>
  bsel (nnot (Nat.beq (Nat.land r dx.pm) 0)) (lowB (Nat.land r dx.pm))
  (bsel (nnot (Nat.beq (Nat.land r dx.rm) 0)) (lowB (Nat.land r dx.rm))
  (bsel (nand (nnot (Nat.beq (Nat.land r dx.em) 0)) (subM (Nat.sub dx.rm (Nat.land dx.rm D)) (succM dx (lowB (Nat.land r dx.em)) dx.n))) (lowB (Nat.land r dx.em))
  (bsel (nnot (Nat.beq (Nat.land r dx.am) 0)) (lowB (Nat.land r dx.am)) (lowB r))))
/-- what is asked for was made ahead -/
def usesIn (dx : Dx) (a : Nat) (xs : List Operand) : Bool := List.rec (motive := fun _ => Bool) true (fun x _ ih => match x with
  | .tmp t => nand (subM (wrOf dx.ops 0 (Nat.succ t)) a) ih
  | _ => ih) xs
/-- .. or is written behind -/
def usesOk (dx : Dx) (D i a : Nat) (xs : List Operand) : Bool := List.rec (motive := fun _ => Bool) true (fun x _ ih => match x with
  | .tmp t => nand (nor (subM (wrOf dx.ops 0 (Nat.succ t)) a) (nand (Nat.beq (Nat.land (wrOf dx.ops 0 (Nat.succ t)) D) 0) (subM (wrOf dx.ops 0 (Nat.succ t)) (succM dx i dx.n)))) ih
  | _ => ih) xs
def dstOk (dx : Dx) (i : Nat) (d : Option Tmp) : Bool := match d with
  | none => true
  | some t => Nat.beq (wrOf dx.ops 0 (Nat.succ t)) (addTo 0 i)
def stepOk (dx : Dx) (D i : Nat) (o : Oper) : Bool := nand (nnot (inSet D i)) (nand (Nat.beq (dx.anc i) (ancE dx.anc o.after.toList)) (nand (subM (dx.anc i) D) (nand (dstOk dx i o.dst) (usesOk dx D i (dx.anc i) o.op.operands.toList))))
def fNR (n : Nat) (k : Nat → RM) : RM := Nat.rec (motive := fun _ => RM) (k 0) (fun m _ => k (Nat.succ m)) n
/-- a read that was done: which, and how many values lie below its own -/
structure Rd where
  i : Nat
  o : Oper
  p : Nat
def hAgain (m : M) (p : Nat) (rest : RM) : RM := ⟨fun call ρ env st k => m.v call ρ env st fun v st' => whenK (avEqF 9 v (nth und p ρ)) (rest.v call ρ env st' k)⟩
def again (P : Program) (outs : Cx) (loc : List Nat) (len a : Nat) (rest : RM) (rd : List Rd) : RM := List.rec (motive := fun _ => RM) rest (fun x _ ih => bsel (inSet a x.i) ih (hAgain (cop P (cOpnd P outs loc) x.o.op) (Nat.sub (Nat.pred len) x.p) ih)) rd
def hAllocAt (a : Nat) (m : M) : M := ⟨fun call ρ env st k => (nth und a ρ).on fun g _ _ _ _ _ _ f _ => whenK (Nat.beq g 10) (st.on fun h n => m.v call ρ env ⟨h, f⟩ fun v st' => st'.on fun h' _ => k v ⟨h', n⟩)⟩
def resvK (st : St) (k : Id → St → Ans) : Ans := st.on fun h n => (Tr.get oNone n h).on fun g _ _ _ _ _ _ => whenK (Nat.beq g 0) (incK n fun n' => k n ⟨h, n'⟩)
def hRes (m : Nat) (rest : RM) : RM := Nat.rec (motive := fun _ => RM) rest (fun _ ih => ⟨fun call ρ env st k => resvK st fun f st' => ih.v call (vMap f :: ρ) env st' k⟩) m
abbrev DNext := Nat → Nat → List Nat → Nat → Nat → List Rd → RM
def dKind (P : Program) (outs : Cx) (dx : Dx) (next : DNext) (D EA : Nat) (loc : List Nat) (len c : Nat) (rd : List Rd) (i : Nat) (o : Oper) (k : Nat) : RM := match k with
  | 0 => hOp outs o.dst (cop P (cOpnd P outs loc) o.op) (fNR (addTo D i) fun D' => next D' EA (dstNo o.dst :: loc) (Nat.succ len) c rd)
  | 1 => bsel (nand (subM EA (dx.anc i)) (usesIn dx (dx.anc i) o.op.operands.toList)) (hOp outs o.dst (cop P (cOpnd P outs loc) o.op) (fNR (addTo D i) fun D' => next D' EA (dstNo o.dst :: loc) (Nat.succ len) c (⟨i, o, len⟩ :: rd))) rBad
  | 2 => hOp outs o.dst (hAllocAt (Nat.add len c) (cop P (cOpnd P outs loc) o.op)) (fNR (addTo D i) fun D' => next D' (addTo EA i) (dstNo o.dst :: loc) (Nat.succ len) (Nat.succ c) rd)
  | _ => bsel (subM EA (dx.anc i)) (hOp outs o.dst (cop P (cOpnd P outs loc) o.op) (again P outs (dstNo o.dst :: loc) (Nat.succ len) (dx.anc i) (fNR (addTo D i) fun D' => next D' (addTo EA i) (dstNo o.dst :: loc) (Nat.succ len) c rd) rd)) rBad
def allSet (D n : Nat) : Bool := Nat.rec (motive := fun _ => Bool) true (fun i ih => nand (inSet D i) ih) n
/-- the two last, which are stores and of which neither is ahead of the other -/
def hPair (x y : Opd) (m n : M) : RM := ⟨fun call ρ env st k => (x.v ρ env).ptrK fun f _ _ _ => (y.v ρ env).ptrK fun f' _ _ _ => whenK (nnot (idEqL f f')) (m.v call ρ env st fun _ st1 => n.v call ρ env st1 fun _ st2 => k env st2)⟩
def allIn (a : Nat) (rd : List Rd) : Bool := List.rec (motive := fun _ => Bool) true (fun x _ ih => nand (inSet a x.i) ih) rd
def isNone' {α : Type} (x : Option α) : Bool := match x with
  | none => true
  | some _ => false
def storeP (o : Op) : Option Operand := match o with
  | .store _ a _ => some a
  | _ => none
def pairOk (dx : Dx) (D EA : Nat) (rd : List Rd) (i : Nat) (o : Oper) : Bool := nand (stepOk dx D i o) (nand (subM EA (dx.anc i)) (nand (allIn (dx.anc i) rd) (nand (isNone' o.dst) (isNone' o.guard))))
def dPair (P : Program) (outs : Cx) (dx : Dx) (D EA : Nat) (loc : List Nat) (rd : List Rd) (i : Nat) (o : Oper) (j : Nat) : RM := match opAt dx.ops j with
  | none => rBad
  | some o' => bsel (nand (pairOk dx D EA rd i o) (nand (pairOk dx D EA rd j o') (nand (Nat.beq (Nat.succ (Nat.succ (lenL loc 0))) dx.n) (nand (nnot (Nat.beq i j)) (allSet (addTo (addTo D i) j) dx.n)))))
    (match storeP o.op with
    | some a => match storeP o'.op with
      | some a' => match cOpnd P outs loc a with
        | some X => match cOpnd P outs loc a' with
          | some X' => hPair X X' (cop P (cOpnd P outs loc) o.op) (cop P (cOpnd P outs loc) o'.op)
          | none => rBad
        | none => rBad
      | none => rBad
    | none => rBad) rBad
/-- all but these -/
def leftM (D n : Nat) : Nat := Nat.sub (Nat.sub (Nat.pow 2 n) 1) D
def isPair (dx : Dx) (D i : Nat) : Bool := nand (Nat.beq (leftM (addTo D i) dx.n) (Nat.pow 2 (Nat.log2 (leftM (addTo D i) dx.n)))) (nnot (inSet (dx.anc (Nat.log2 (leftM (addTo D i) dx.n))) i))
def dSkip (outs : Cx) (next : DNext) (D EA : Nat) (loc : List Nat) (len c : Nat) (rd : List Rd) (i : Nat) (o : Oper) : RM := hOp outs o.dst hMoveU (fNR (addTo D i) fun D' => next D' EA (dstNo o.dst :: loc) (Nat.succ len) c rd)
def dGuard (P : Program) (outs : Cx) (dx : Dx) (next : DNext) (D EA : Nat) (loc : List Nat) (len c : Nat) (rd : List Rd) (i : Nat) (o : Oper) (g : Nat) (want : Bool) : RM := match opAt dx.ops g with
  | none => rBad
  | some og => match og.dst with
    | none => rBad
    | some u => bsel (subM (wrOf dx.ops 0 (Nat.succ u)) (dx.anc i)) (match cTmp outs loc u with
      | some x => hGuard x want (dKind P outs dx next D EA loc len c rd i o (kindP P o.op)) (dSkip outs next D EA loc len c rd i o)
      | none => rBad) rBad
def dStep (P : Program) (outs : Cx) (dx : Dx) (next : DNext) (D EA : Nat) (loc : List Nat) (len c : Nat) (rd : List Rd) (i : Nat) : RM := match opAt dx.ops i with
  | none => rBad
  | some o => bsel (nand (Nat.beq (kindP P o.op) 3) (isPair dx D i)) (dPair P outs dx D EA loc rd i o (Nat.log2 (leftM (addTo D i) dx.n)))
    (bsel (stepOk dx D i o) (match o.guard with
    | none => dKind P outs dx next D EA loc len c rd i o (kindP P o.op)
    | some g => dGuard P outs dx next D EA loc len c rd i o g.1 g.2) rBad)
def dGo (P : Program) (outs : Cx) (dx : Dx) (n : Nat) : DNext := Nat.rec (motive := fun _ => DNext) (fun D _ _ _ _ _ => bsel (allSet D dx.n) hDone rBad)
  (fun _ ih D EA loc len c rd => fNR (pickN dx D) fun i => dStep P outs dx ih D EA loc len c rd i) n
def cDraw (P : Program) (outs : Cx) (l : List Oper) : RM := hRes (kCount P 2 l) (dGo P outs (mkDx P l) (lenL l 0) 0 0 [] 0 0 [])

/- code -/
abbrev KE := Env → St → Ans
abbrev CMF := CallT → Env → St → KE → (Nat → KE) → KE → Ans
abbrev CM := Bx CMF
def hCBad : CM := ⟨fun _ _ _ _ _ _ => .bad⟩
def hNop : CM := ⟨fun _ env st kn _ _ => kn env st⟩
def hRegion (r : RM) : CM := ⟨fun call env st kn _ _ => r.v call [] env st kn⟩
def hSeq (a b : CM) : CM := ⟨fun call env st kn kx kr => a.v call env st (fun env' st' => b.v call env' st' kn kx kr) kx kr⟩
def hCond (x : Opd) (a b : CM) : CM := ⟨fun call env st kn kx kr => (x.v [] env).boolK fun t => asel t (a.v call env st kn kx kr) (b.v call env st kn kx kr)⟩
/-- exits: the block's number twice; gotos: the label's number twice and one -/
def hBlock (id : Nat) (b : CM) : CM := ⟨fun call env st kn kx kr => b.v call env st kn (fun j env' st' => asel (Nat.beq j id) (kn env' st') (kx j env' st')) kr⟩
def loopF (b : CM) (call : CallT) (n : Nat) (env : Env) (st : St) (kx : Nat → KE) (kr : KE) : Ans :=
  Nat.rec (motive := fun _ => Env → St → Ans) (fun _ _ => .bad) (fun _ ih env st => b.v call env st ih kx kr) n env st
def loopFuel : Nat := 1000000
def hLoop (b : CM) : CM := ⟨fun call env st _ kx kr => loopF b call loopFuel env st kx kr⟩
def hExit (id : Nat) : CM := ⟨fun _ env st _ kx _ => kx id env st⟩
def hRet : CM := ⟨fun _ env st _ _ kr => kr env st⟩
def noL : Nat → Option CM := fun _ => none
def labL (l' : Nat) : Nat → Option CM := fun l => if l' == l then some hNop else none
def seqL (la : Nat → Option CM) (lb : Nat → Option CM) (b : CM) : Nat → Option CM := fun l => match la l with
  | some r => some (hSeq r b)
  | none => lb l
def scopeX (lab : Nat → Option CM) (go : CM → KE) (kx : Nat → KE) (j : Nat) (env : Env) (st : St) : Ans :=
  asel (Nat.beq (Nat.mod j 2) 1) (match lab (Nat.div j 2) with
    | some c => go c env st
    | none => kx j env st) (kx j env st)
def scopeF (lab : Nat → Option CM) (call : CallT) (n : Nat) (c : CM) (env : Env) (st : St) (kn : KE) (kx : Nat → KE) (kr : KE) : Ans :=
  Nat.rec (motive := fun _ => CM → Env → St → Ans) (fun _ _ _ => .bad) (fun _ ih c env st => c.v call env st kn (scopeX lab ih kx) kr) n c env st
def hScope (lab : Nat → Option CM) (b : CM) : CM := ⟨fun call env st kn kx kr => scopeF lab call loopFuel b env st kn kx kr⟩
/-- the code, and what stands behind each label -/
structure CL where
  c : CM
  l : Nat → Option CM
abbrev CcT := Program → Cx → CL
def eSkip : CcT := fun _ _ => ⟨hNop, noL⟩
def cReg (P : Program) (outs : Cx) (draw : Bool) (ops : Array Oper) : RM := match draw with
  | true => cDraw P outs ops.toList
  | false => cOps P outs ops.toList 0 []
def eRegion (_id : Nat) (ops : Array Oper) (draw : Bool) : CcT := fun P outs => ⟨hRegion (cReg P outs draw ops), noL⟩
def eSeq (_a _b : Code) (ca cb : CcT) : CcT := fun P outs => ⟨hSeq (ca P outs).c (cb P outs).c, seqL (ca P outs).l (cb P outs).l (cb P outs).c⟩
def cCondO (x : Option Opd) (a b : CM) : CM := match x with
  | some x => hCond x a b
  | none => hCBad
def eCond (x : Operand) (_a _b : Code) (ca cb : CcT) : CcT := fun P outs => ⟨cCondO (cOpnd P outs [] x) (ca P outs).c (cb P outs).c, noL⟩
def eBlock (id : Nat) (_b : Code) (cb : CcT) : CcT := fun P outs => ⟨hBlock (Nat.mul 2 id) (cb P outs).c, noL⟩
def eLoop (_b : Code) (cb : CcT) : CcT := fun P outs => ⟨hLoop (cb P outs).c, noL⟩
def eExit (id : Nat) : CcT := fun _ _ => ⟨hExit (Nat.mul 2 id), noL⟩
def eScope (_b : Code) (cb : CcT) : CcT := fun P outs => ⟨hScope (cb P outs).l (cb P outs).c, noL⟩
def eLabel (l : Nat) : CcT := fun _ _ => ⟨hNop, labL l⟩
def eGoto (l : Nat) : CcT := fun _ _ => ⟨hExit (Nat.succ (Nat.mul 2 l)), noL⟩
def eRet : CcT := fun _ _ => ⟨hRet, noL⟩
def eBad : CcT := fun _ _ => ⟨hCBad, noL⟩
def ccB (c : Code) : CcT := Code.rec (motive := fun _ => CcT) eSkip eRegion eSeq eCond eBlock eLoop (fun _ _ _ _ _ _ => eBad) eExit eScope eLabel eGoto eRet (fun _ => eBad) c
def cc (P : Program) (outs : Cx) (c : Code) : CM := (ccB c P outs).c

/- which slots are asked for outside the region that writes them: sets of numbers as numbers -/
def nOpd (made : Nat) (x : Operand) (need : Nat) : Nat := match x with
  | .tmp t => bsel (inSet made t) need (addTo need t)
  | _ => need
def nOpds (made : Nat) (xs : List Operand) (need : Nat) : Nat := List.rec (motive := fun _ => Nat) need (fun x _ ih => nOpd made x ih) xs
def nParts (made : Nat) (xs : List (Nat × Operand)) (need : Nat) : Nat := List.rec (motive := fun _ => Nat) need (fun x _ ih => nOpd made x.2 ih) xs
def nOpt (made : Nat) (x : Option Operand) (need : Nat) : Nat := match x with
  | some x => nOpd made x need
  | none => need
def nOp (made : Nat) (o : Op) (need : Nat) : Nat := match o with
  | .move x => nOpd made x need
  | .assign x => nOpd made x need
  | .box _ x => nOpd made x need
  | .load _ x => nOpd made x need
  | .nilCheck x => nOpd made x need
  | .unOp _ _ x => nOpd made x need
  | .convert _ _ x => nOpd made x need
  | .makeInterface _ x => nOpd made x need
  | .fieldAddr _ x _ => nOpd made x need
  | .field _ x _ => nOpd made x need
  | .range _ x => nOpd made x need
  | .next x _ => nOpd made x need
  | .extract x _ => nOpd made x need
  | .pick a b c => nOpd made a (nOpd made b (nOpd made c need))
  | .build _ ps => nParts made ps.toList need
  | .buildSlice _ _ ps => nParts made ps.toList need
  | .store _ a b => nOpd made a (nOpd made b need)
  | .binOp _ _ a b _ => nOpd made a (nOpd made b need)
  | .makeSlice _ a b => nOpd made a (nOpd made b need)
  | .indexAddr _ a b => nOpd made a (nOpd made b need)
  | .index _ a b => nOpd made a (nOpd made b need)
  | .lookup _ a b _ => nOpd made a (nOpd made b need)
  | .mapUpdate _ a b c => nOpd made a (nOpd made b (nOpd made c need))
  | .makeFunc _ xs ys => nOpds made xs.toList (nOpds made ys.toList need)
  | .slice _ x l h m => nOpd made x (nOpt made l (nOpt made h (nOpt made m need)))
  | .call c => nOpds made c.args.toList (match c.callee with
    | .value f => nOpd made f need
    | _ => need)
  | _ => need
def needsOf : List Oper → Nat → Nat → Nat
  | [], _, need => need
  | o :: rest, made, need => needsOf rest (match o.dst with
    | some t => addTo made t
    | none => made) (nOp made o.op need)
def needsC : Code → Nat → Nat
  | .region _ ops _, need => needsOf ops.toList 0 need
  | .seq a b, need => needsC b (needsC a need)
  | .cond x a b, need => needsC b (needsC a (nOpd 0 x need))
  | .block _ b, need => needsC b need
  | .loop b, need => needsC b need
  | .scope b, need => needsC b need
  | _, need => need
def resT : List ResultVar → Nat → Nat
  | [], need => need
  | .tmp t :: rs, need => resT rs (addTo need t)
  | .cell a _ :: rs, need => resT rs (addTo need a)

/- functions -/
def envOfK (outs : Nat → Bool) (vs : List AV) (i : Nat) (env : Env) (k : Env → Ans) : Ans :=
  List.rec (motive := fun _ => Nat → Env → Ans) (fun _ env => k env) (fun v _ ih i env => asel (outs i) (Tr.setK und v (path i) env fun env' => ih (Nat.succ i) env') (ih (Nat.succ i) env)) vs i env
inductive Rv where
  | t (p : List Bool)
  | a (n : Nat) (p : List Bool)
  | o (p : List Bool)
def cRes (P : Program) (outs : Nat → Bool) : List ResultVar → Option (List Rv)
  | [] => some []
  | .tmp t :: rs => if outs t = true then (match cRes P outs rs with
    | some xs => some (.t (path t) :: xs)
    | none => none) else none
  | .cell a t :: rs => if outs a = true then (match cRes P outs rs with
    | some xs => (match agg? P t with
      | some true => (match sizeOf? P t with
        | some n => some (.a n (path a) :: xs)
        | none => none)
      | some false => some (.o (path a) :: xs)
      | none => none)
    | none => none) else none
def resK (env : Env) (st : St) : List Rv → (List AV → Ans) → Ans
  | [], k => k []
  | .t p :: rs, k => fV (Tr.get und p env) fun v => resK env st rs fun vs => k (v :: vs)
  | .a n p :: rs, k => (Tr.get und p env).ptrK fun f m o z => whenK (Nat.ble n z) (readK st f m o n fun cs => resK env st rs fun vs => k (⟨1, 0, 0, 0, 0, 0, .ofNat 0, [], cs⟩ :: vs))
  | .o p :: rs, k => (Tr.get und p env).ptrK fun f m o z => whenK (Nat.ble 1 z) (read1K st f m o fun v => resK env st rs fun vs => k (v :: vs))
def oneK (vs : List AV) (st : St) (k : KV) : Ans := List.rec (motive := fun _ => Ans) (k und st) (fun v rest _ => asel (isEmp rest) (k v st) (k ⟨0, 0, 0, 0, 0, 0, .ofNat 0, [], vs⟩ st)) vs
abbrev FMF := CallT → List AV → St → KV → Ans
abbrev FM := Bx FMF
def hFunc (outs : Nat → Bool) (body : CM) (rs : List Rv) : FM := ⟨fun call args st k => envOfK outs args 0 .e fun env =>
  body.v call env st (fun env st' => resK env st' rs fun vs => oneK vs st' k) (fun _ _ _ => .bad) (fun env st' => resK env st' rs fun vs => oneK vs st' k)⟩
def hFBad : FM := ⟨fun _ _ _ _ => .bad⟩

/- functions without a body -/
def findB (c n s i : Nat) : Int := Nat.rec (motive := fun _ => Nat → Nat → Int) (fun _ _ => .negSucc 0) (fun _ ih s i => bsel (Nat.beq (Nat.mod s 256) c) (.ofNat i) (ih (Nat.div s 256) (Nat.succ i))) n s i
def xIndexByte : FM := ⟨fun _ args st k => (hd und args).strK fun n s => (hd und (tl args)).idxK fun b => whenK (isEmp (tl (tl args))) (kInt 3 (findB b n s 0) st k)⟩
def xSame : FM := ⟨fun _ args st k => whenK (nand (nnot (isEmp args)) (isEmp (tl args))) (fV (hd und args) fun v => k v st)⟩

def cFunc (P : Program) (f : FuncId) : FM := match P.funcs[f]? with
  | none => hFBad
  | some fn => match fn.body with
    | none => hFBad
    | some body => match cRes P (inSet (needsC body (resT fn.results.toList 0))) fn.results.toList with
      | some rs => hFunc (inSet (needsC body (resT fn.results.toList 0))) (cc P ⟨inSet (needsC body (resT fn.results.toList 0)), fn.ntmps⟩ body) rs
      | none => hFBad

abbrev Hook := FuncId → Option FM
def hookOr (h : Option FM) (m : FM) : FM := Option.rec (motive := fun _ => FM) m (fun g => g) h
def run (P : Program) (H : Hook) (n : Nat) : CallT :=
  Nat.rec (motive := fun _ => CallT) (fun _ _ _ _ => .bad) (fun _ ih f args st k => (hookOr (H f) (cFunc P f)).v ih args st k) n
end
end Go.Ev
