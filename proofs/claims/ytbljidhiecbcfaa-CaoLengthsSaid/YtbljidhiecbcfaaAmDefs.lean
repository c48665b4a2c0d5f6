/-
  Definitions of an abstract machine over the model's code, by which the functions of the program are lifted to plain Lean functions.
  Typed scalars, slices as lists, rows of local variables and buffers of the call's own by literal numbers.
-/
import Derived.WalkKit
import Derived.KernelRfl
namespace Go.PgAM
open Go

mutual
inductive Sc where
  | int (k : IntKind)
  | bool
  | str
  | sl (e : VT)
  | fn (a : VTs) (r : VTs)
inductive VT where
  | sc (s : Sc)
  | ag (cs : Scs)
inductive Scs where
  | nil
  | cons (s : Sc) (r : Scs)
inductive VTs where
  | nil
  | cons (v : VT) (r : VTs)
end

mutual
def Sc.I : Sc → Type
  | .int _ => Int
  | .bool => Bool
  | .str => ByteArray
  | .sl e => List e.I
  | .fn a r => a.I → Option r.I
def VT.I : VT → Type
  | .sc s => s.I
  | .ag cs => cs.I
def Scs.I : Scs → Type
  | .nil => Unit
  | .cons s .nil => s.I
  | .cons s (.cons s' r) => s.I × (Scs.cons s' r).I
def VTs.I : VTs → Type
  | .nil => Unit
  | .cons v .nil => v.I
  | .cons v (.cons v' r) => v.I × (VTs.cons v' r).I
end

mutual
def Sc.dec : (a b : Sc) → Decidable (a = b)
  | .int k, .int k' => if h : k = k' then .isTrue (by rw [h]) else .isFalse (by intro e; cases e; exact h rfl)
  | .bool, .bool => .isTrue rfl
  | .str, .str => .isTrue rfl
  | .sl e, .sl e' => match VT.dec e e' with
    | .isTrue h => .isTrue (by rw [h])
    | .isFalse h => .isFalse (by intro x; cases x; exact h rfl)
  | .fn a r, .fn a' r' => match VTs.dec a a', VTs.dec r r' with
    | .isTrue h, .isTrue g => .isTrue (by rw [h, g])
    | .isFalse h, _ => .isFalse (by intro x; cases x; exact h rfl)
    | _, .isFalse h => .isFalse (by intro x; cases x; exact h rfl)
  | .int _, .bool => .isFalse (by intro e; cases e)
  | .int _, .str => .isFalse (by intro e; cases e)
  | .int _, .sl _ => .isFalse (by intro e; cases e)
  | .int _, .fn _ _ => .isFalse (by intro e; cases e)
  | .bool, .int _ => .isFalse (by intro e; cases e)
  | .bool, .str => .isFalse (by intro e; cases e)
  | .bool, .sl _ => .isFalse (by intro e; cases e)
  | .bool, .fn _ _ => .isFalse (by intro e; cases e)
  | .str, .int _ => .isFalse (by intro e; cases e)
  | .str, .bool => .isFalse (by intro e; cases e)
  | .str, .sl _ => .isFalse (by intro e; cases e)
  | .str, .fn _ _ => .isFalse (by intro e; cases e)
  | .sl _, .int _ => .isFalse (by intro e; cases e)
  | .sl _, .bool => .isFalse (by intro e; cases e)
  | .sl _, .str => .isFalse (by intro e; cases e)
  | .sl _, .fn _ _ => .isFalse (by intro e; cases e)
  | .fn _ _, .int _ => .isFalse (by intro e; cases e)
  | .fn _ _, .bool => .isFalse (by intro e; cases e)
  | .fn _ _, .str => .isFalse (by intro e; cases e)
  | .fn _ _, .sl _ => .isFalse (by intro e; cases e)
def VT.dec : (a b : VT) → Decidable (a = b)
  | .sc s, .sc s' => match Sc.dec s s' with
    | .isTrue h => .isTrue (by rw [h])
    | .isFalse h => .isFalse (by intro x; cases x; exact h rfl)
  | .ag s, .ag s' => match Scs.dec s s' with
    | .isTrue h => .isTrue (by rw [h])
    | .isFalse h => .isFalse (by intro x; cases x; exact h rfl)
  | .sc _, .ag _ => .isFalse (by intro e; cases e)
  | .ag _, .sc _ => .isFalse (by intro e; cases e)
def Scs.dec : (a b : Scs) → Decidable (a = b)
  | .nil, .nil => .isTrue rfl
  | .cons s r, .cons s' r' => match Sc.dec s s', Scs.dec r r' with
    | .isTrue h, .isTrue g => .isTrue (by rw [h, g])
    | .isFalse h, _ => .isFalse (by intro x; cases x; exact h rfl)
    | _, .isFalse h => .isFalse (by intro x; cases x; exact h rfl)
  | .nil, .cons _ _ => .isFalse (by intro e; cases e)
  | .cons _ _, .nil => .isFalse (by intro e; cases e)
def VTs.dec : (a b : VTs) → Decidable (a = b)
  | .nil, .nil => .isTrue rfl
  | .cons s r, .cons s' r' => match VT.dec s s', VTs.dec r r' with
    | .isTrue h, .isTrue g => .isTrue (by rw [h, g])
    | .isFalse h, _ => .isFalse (by intro x; cases x; exact h rfl)
    | _, .isFalse h => .isFalse (by intro x; cases x; exact h rfl)
  | .nil, .cons _ _ => .isFalse (by intro e; cases e)
  | .cons _ _, .nil => .isFalse (by intro e; cases e)
end

/-- A scalar with its type. -/
structure DC where
  s : Sc
  x : s.I

def DC.as (d : DC) (s : Sc) : Option s.I := match Sc.dec d.s s with
  | .isTrue h => some (h ▸ d.x)
  | .isFalse _ => none

def castL (e e' : VT) (xs : List e.I) : Option (List e'.I) := match VT.dec e e' with
  | .isTrue h => some (h ▸ xs)
  | .isFalse _ => none

def Scs.size : Scs → Nat
  | .nil => 0
  | .cons _ r => r.size + 1
def VT.size : VT → Nat
  | .sc _ => 1
  | .ag cs => cs.size

/-- The cells of a value. -/
def Scs.cells : (t : Scs) → t.I → List DC
  | .nil, _ => []
  | .cons s .nil, x => [⟨s, x⟩]
  | .cons s (.cons s' r), x => ⟨s, x.1⟩ :: Scs.cells (.cons s' r) x.2
def VT.cells : (t : VT) → t.I → List DC
  | .sc s, x => [⟨s, x⟩]
  | .ag cs, x => cs.cells x

mutual
def Sc.zero : (s : Sc) → s.I
  | .int _ => (0 : Int)
  | .bool => false
  | .str => ByteArray.empty
  | .sl _ => []
  | .fn _ _ => fun _ => none
def VT.zero : (t : VT) → t.I
  | .sc s => s.zero
  | .ag cs => cs.zero
def Scs.zero : (t : Scs) → t.I
  | .nil => ()
  | .cons s .nil => s.zero
  | .cons s (.cons s' r) => (s.zero, Scs.zero (.cons s' r))
end

mutual
def Sc.hasSl : Sc → Bool
  | .sl _ => true
  | .fn _ _ => true
  | _ => false
def VT.hasSl : VT → Bool
  | .sc s => s.hasSl
  | .ag cs => cs.hasSl
def Scs.hasSl : Scs → Bool
  | .nil => false
  | .cons s r => s.hasSl || r.hasSl
end

mutual
def Sc.noFn : Sc → Bool
  | .sl e => e.noFn
  | .fn _ _ => false
  | _ => true
def VT.noFn : VT → Bool
  | .sc s => s.noFn
  | .ag cs => cs.noFn
def Scs.noFn : Scs → Bool
  | .nil => true
  | .cons s r => s.noFn && r.noFn
end

/-- What the machine knows of a type: its shape, its bytes; of a struct the fields' places and sizes; of an array its length and its elements' size; of a slice the elements' bytes. -/
structure TI where
  vt : VT
  bytes : Nat := 8
  flds : List (Nat × Nat × Bool) := []
  arr : Nat × Nat × Bool := (0, 0, false)
  eb : Nat := 0

inductive AS where
  | d (v : VT)
  | ref (cs : Scs)
  | mv (e : VT)
def AS.I : AS → Type
  | .d v => v.I
  | .ref cs => cs.I
  | .mv e => List e.I
inductive RS where
  | d (v : VT)
  | fresh (e : VT)
def RS.I : RS → Type
  | .d v => v.I
  | .fresh e => List e.I
def RS.hasSl : RS → Bool
  | .d v => v.hasSl
  | .fresh e => e.hasSl
def ASs.I : List AS → Type
  | [] => Unit
  | a :: r => a.I × ASs.I r
def RSs.I : List RS → Type
  | [] => Unit
  | [r] => r.I
  | r :: r' :: rs => r.I × RSs.I (r' :: rs)

/-- A function's contract: what it is handed, what it hands back, and which it is. -/
structure Con where
  as : List AS
  rs : List RS
  f : ASs.I as → Option (RSs.I rs)

abbrev Tab := FuncId → Option Con
def AS.isMv : AS → Bool
  | .mv _ => true
  | _ => false
/-- The functions to which nothing is given away. -/
def Tab.still (C : Tab) : Tab := fun f => match C f with
  | some con => cond (con.as.any AS.isMv) none (some con)
  | none => none

/-- What is known on at a loop's head: temporaries, rows, buffers; and the places whose buffers are given up for plain lists. -/
structure Keep where
  ts : List Nat
  rs : List Nat
  bs : List Nat
  fz : List Nat
  sh : List Nat
  rn : List Nat
  u : Nat

structure Env where
  nt : Nat
  ty : List (TypeId × TI)
  C : Tab
  N : Nat
  keep : List (Nat × Keep)
  shrink : List Nat
  shr : List (Nat × List Nat)
  eqs : List TypeId
  q : Bool := false
  lo : Nat := 0

inductive Cap where
  | loc (slot : Nat)
  | sref (cs : List DC)

inductive PC where
  | d (c : DC)
  | loc (slot off : Nat)
  | sref (cs : List DC)
  | own (tok : Nat)
  | eptr (tok : Nat) (i : Int) (off : Nat) (cs : List DC)
  | fn (f : FuncId) (caps : List Cap)
  | opre (tok : Nat) (hi : Nat)
  | osuf (tok : Nat) (lo : Nat)
  | undef
  | dead

inductive PV where
  | s (p : PC)
  | agg (ps : List PC)
  | tup (vs : List (Bool × List PC))

structure Buf where
  x : Bool
  e : VT
  xs : List e.I

/-- Temporaries, rows of variables, buffers, each by its number: the latest entry counts. -/
structure St where
  t : List (Nat × PV)
  r : List (Nat × Option (List PC))
  b : List (Nat × Buf)

def nth {α : Type} : List α → Nat → Option α
  | [], _ => none
  | a :: _, 0 => some a
  | _ :: l, n + 1 => nth l n
def splice {α : Type} : List α → Nat → List α → Option (List α)
  | l, 0, [] => some l
  | [], 0, _ :: _ => none
  | _ :: l, 0, x :: xs => (splice l 0 xs).map (x :: ·)
  | [], _ + 1, _ => none
  | a :: l, n + 1, xs => (splice l n xs).map (a :: ·)

def look {α : Type} : List (Nat × α) → Nat → Option α
  | [], _ => none
  | (m, a) :: l, n => cond (Nat.beq m n) (some a) (look l n)
def put {α : Type} (l : List (Nat × α)) (n : Nat) (x : α) : List (Nat × α) := (n, x) :: l
def memb : List Nat → Nat → Bool
  | [], _ => false
  | m :: l, n => cond (Nat.beq m n) true (memb l n)

def Env.still (E : Env) : Env := { E with C := E.C.still, q := true }
def Env.tyOf (E : Env) (t : TypeId) : Option TI := look E.ty t
def Env.keepOf (E : Env) (r : Nat) : Keep := (look E.keep r).getD ⟨[], [], [], [], [], [], 0⟩

/-- How many rounds: as many as the whole has, or a few by count. -/
def Env.fuel (E : Env) (K : Keep) : Nat := match K.u with
  | 0 => E.N
  | n + 1 => n + 1
/-- An element by a Go index. -/
def idx {α : Type} (xs : List α) : Int → Option α
  | .ofNat n => xs[n]?
  | .negSucc _ => none

def grd {R : Type} (c : Bool) (k : Option R) : Option R := cond c k none

def St.tmp (st : St) (n : Nat) : PV := (look st.t n).getD (.s .dead)
def St.row (st : St) (n : Nat) : Option (List PC) := (look st.r n).join
def St.setT (st : St) (d : Option Nat) (v : PV) : St := match d with
  | none => st
  | some d => { st with t := (d, v) :: st.t }

def PC.mapD (f : PC → Bool) (p : PC) : PC := cond (f p) .dead p
def PV.mapD (f : PC → Bool) : PV → PV
  | .s p => .s (p.mapD f)
  | .agg ps => .agg (ps.map (PC.mapD f))
  | .tup vs => .tup (vs.map fun v => (v.1, v.2.map (PC.mapD f)))
/-- All that a test names is known no more. -/
def St.kill (st : St) (f : PC → Bool) : St :=
  { st with t := st.t.map fun p => (p.1, p.2.mapD f), r := st.r.map fun p => (p.1, p.2.map (List.map (PC.mapD f))) }

def Cap.isLoc (d : Nat) : Cap → Bool
  | .loc s => Nat.beq s d
  | .sref _ => false
def PC.atLoc (d : Nat) : PC → Bool
  | .loc s _ => Nat.beq s d
  | .fn _ caps => caps.any (Cap.isLoc d)
  | _ => false
def PC.atTok (d : Nat) : PC → Bool
  | .own t => Nat.beq t d
  | .eptr t _ _ _ => Nat.beq t d
  | .osuf t _ => Nat.beq t d
  | .opre t _ => Nat.beq t d
  | _ => false

def PC.ptrTo (d : Nat) : PC → Bool
  | .eptr t _ _ _ => Nat.beq t d
  | _ => false
/-- Is a buffer's number one that a slot's operations give? -/
def tokOf (d t : Nat) : Bool := cond (Nat.beq t d) true (Nat.beq (t / 1000) (d + 1))
def PC.ofDst (d : Nat) : PC → Bool
  | .own t => tokOf d t
  | .eptr t _ _ _ => tokOf d t
  | .osuf t _ => tokOf d t
  | .opre t _ => tokOf d t
  | _ => false
def dropB (d : Nat) : List (Nat × Buf) → List (Nat × Buf)
  | [] => []
  | (t, B) :: l => cond (tokOf d t) (dropB d l) ((t, B) :: dropB d l)
def St.newBuf (st : St) (tok : Nat) (B : Buf) : St :=
  let st' := st.kill (PC.atTok tok)
  { st' with b := put st'.b tok B }

/-- A new variable's cells. -/
def zeroRow (tok : Nat) : Scs → List PC × List (Nat × Buf)
  | .nil => ([], [])
  | .cons (.sl e) r => let q := zeroRow (tok + 1) r; (.own tok :: q.1, (tok, ⟨true, e, []⟩) :: q.2)
  | .cons (.fn _ _) r => let q := zeroRow (tok + 1) r; (.dead :: q.1, q.2)
  | .cons s r => let q := zeroRow (tok + 1) r; (.d ⟨s, s.zero⟩ :: q.1, q.2)
def VT.scs : VT → Scs
  | .sc s => .cons s .nil
  | .ag cs => cs
def newBufs (st : St) : List (Nat × Buf) → St
  | [] => st
  | (t, B) :: l => newBufs (st.newBuf t B) l
def St.newRow (st : St) (d : Nat) (cells : List PC) : St :=
  let st' := st.kill (PC.atLoc d)
  { st' with r := (d, some (cells.map (PC.mapD (PC.atLoc d)))) :: st'.r, t := (d, .s (.loc d 0)) :: st'.t }

def constPV : Value → Option PV
  | .int k n => some (.s (.d ⟨.int k, n⟩))
  | .bool b => some (.s (.d ⟨.bool, b⟩))
  | .string s => some (.s (.d ⟨.str, s⟩))
  | _ => none
def opv (st : St) : Operand → Option PV
  | .tmp t => some (st.tmp t)
  | .const v => constPV v
  | .func f => some (.s (.fn f []))
  | .global _ => none
def opc (st : St) (o : Operand) : Option PC := match opv st o with
  | some (.s p) => some p
  | _ => none

def ScsofDC : (t : Scs) → List DC → Option t.I
  | .nil, _ => some ()
  | .cons s .nil, c :: _ => c.as s
  | .cons s (.cons s' r), c :: l => match c.as s, ScsofDC (.cons s' r) l with
    | some a, some b => some (a, b)
    | _, _ => none
  | .cons _ _, [] => none

mutual
def encVT : (v : VT) → v.I → PV
  | .sc s, x => .s (.d ⟨s, x⟩)
  | .ag cs, x => .agg ((cs.cells x).map .d)
end
def encVTs : (vs : VTs) → vs.I → List PV
  | .nil, _ => []
  | .cons v .nil, x => [encVT v x]
  | .cons v (.cons v' r), x => encVT v x.1 :: encVTs (.cons v' r) x.2

def RS.toVT : (r : RS) → r.I → (v : VT) → Option v.I
  | .d w, x, v => match VT.dec w v with
    | .isTrue h => some (h ▸ x)
    | .isFalse _ => none
  | .fresh e, x, v => match VT.dec (.sc (.sl e)) v with
    | .isTrue h => some (h ▸ (show (VT.sc (.sl e)).I from x))
    | .isFalse _ => none
def RSs.toVTs : (rs : List RS) → RSs.I rs → (vs : VTs) → Option vs.I
  | [], _, .nil => some ()
  | [r], x, .cons v .nil => r.toVT x v
  | r :: r' :: rs, x, .cons v (.cons v' vs) => match r.toVT x.1 v, RSs.toVTs (r' :: rs) x.2 (.cons v' vs) with
    | some a, some b => some (a, b)
    | _, _ => none
  | _, _, _ => none

def capPV : Cap → PV
  | .loc s => .s (.loc s 0)
  | .sref cs => .s (.sref cs)

/-- A scalar as one of a type that is no function's. -/
def toSc0 (st : St) (s : Sc) : PC → Option s.I
  | .d c => c.as s
  | .own tok => match look st.b tok with
    | some B => DC.as ⟨.sl B.e, B.xs⟩ s
    | none => none
  | _ => none
def ofPCs0 (st : St) : (t : Scs) → List PC → Option t.I
  | .nil, _ => some ()
  | .cons s .nil, c :: _ => toSc0 st s c
  | .cons s (.cons s' r), c :: l => match toSc0 st s c, ofPCs0 st (.cons s' r) l with
    | some a, some b => some (a, b)
    | _, _ => none
  | .cons _ _, [] => none
def decArg0 (st : St) : (a : AS) → PV → Option a.I
  | .d (.sc s), .s p => toSc0 st s p
  | .d (.ag cs), .agg ps => cond (Nat.beq ps.length cs.size) (ofPCs0 st cs ps) none
  | .ref cs, .s (.sref l) => ScsofDC cs l
  | .ref cs, .s (.eptr _ _ _ l) => ScsofDC cs l
  | .ref cs, .s (.loc r off) => match st.row r with
    | some cells => ofPCs0 st cs (cells.drop off)
    | none => none
  | _, _ => none
def decArgs0 (st : St) : (as : List AS) → List PV → Option (ASs.I as)
  | [], [] => some ()
  | a :: as, v :: vs => match decArg0 st a v, decArgs0 st as vs with
    | some x, some y => some (x, y)
    | _, _ => none
  | _, _ => none

/-- A function's literal, with what it has captured, as a Lean function. -/
def cloFn (C : Tab) (st : St) (F : FuncId) (caps : List Cap) (a r : VTs) : a.I → Option r.I := fun x =>
  match C F with
  | none => none
  | some con => match decArgs0 st con.as (encVTs a x ++ caps.map capPV) with
    | none => none
    | some z => (con.f z).bind fun y => RSs.toVTs con.rs y r

def toSc (C : Tab) (st : St) : (s : Sc) → PC → Option s.I
  | .fn a r, .fn F caps => some (cloFn C st F caps a r)
  | s, p => toSc0 st s p
def ofPCs (C : Tab) (st : St) : (t : Scs) → List PC → Option t.I
  | .nil, _ => some ()
  | .cons s .nil, c :: _ => toSc C st s c
  | .cons s (.cons s' r), c :: l => match toSc C st s c, ofPCs C st (.cons s' r) l with
    | some a, some b => some (a, b)
    | _, _ => none
  | .cons _ _, [] => none
def toVT (C : Tab) (st : St) : (v : VT) → PV → Option v.I
  | .sc s, .s p => toSc C st s p
  | .ag cs, .agg ps => cond (Nat.beq ps.length cs.size) (ofPCs C st cs ps) none
  | _, _ => none
def toVTs (C : Tab) (st : St) : (vs : VTs) → List PV → Option vs.I
  | .nil, [] => some ()
  | .cons v .nil, [p] => toVT C st v p
  | .cons v (.cons v' r), p :: ps => match toVT C st v p, toVTs C st (.cons v' r) ps with
    | some a, some b => some (a, b)
    | _, _ => none
  | _, _ => none

def decArg (C : Tab) (st : St) : (a : AS) → PV → Option a.I
  | .d v, p => toVT C st v p
  | .ref cs, .s (.sref l) => ScsofDC cs l
  | .ref cs, .s (.eptr _ _ _ l) => ScsofDC cs l
  | .ref cs, .s (.loc r off) => match st.row r with
    | some cells => ofPCs0 st cs (cells.drop off)
    | none => none
  | .mv e, .s (.own tok) => match look st.b tok with
    | some ⟨true, e', xs⟩ => castL e' e xs
    | _ => none
  | _, _ => none
def decArgs (C : Tab) (st : St) : (as : List AS) → List PV → Option (ASs.I as)
  | [], [] => some ()
  | a :: as, v :: vs => match decArg C st a v, decArgs C st as vs with
    | some x, some y => some (x, y)
    | _, _ => none
  | _, _ => none

/-- The buffers that a call is shown: they may be handed back in parts. -/
def PC.toks (st : St) : PC → List Nat
  | .own t => [t]
  | .loc r _ => ((st.row r).getD []).flatMap fun | .own t => [t] | _ => []
  | .fn _ caps => caps.flatMap fun
    | .loc r => ((st.row r).getD []).flatMap fun | .own t => [t] | _ => []
    | .sref _ => []
  | _ => []
def PV.toks (st : St) : PV → List Nat
  | .s p => p.toks st
  | .agg ps => ps.flatMap (PC.toks st)
  | .tup _ => []
def St.share (st : St) : List Nat → St
  | [] => st
  | t :: ts => St.share (match look st.b t with
    | some B => { st with b := put st.b t { B with x := false } }
    | none => st) ts
def dropTok (tok : Nat) : List (Nat × Buf) → List (Nat × Buf)
  | [] => []
  | (t, B) :: l => cond (Nat.beq t tok) (dropTok tok l) ((t, B) :: dropTok tok l)
def mvTok : AS → PV → Option Nat
  | .mv _, .s (.own tok) => some tok
  | _, _ => none
def St.give (st : St) (tok : Nat) : St := let st1 := st.kill (PC.atTok tok)
  { st1 with b := dropTok tok st1.b }
def St.moved (st : St) : List AS → List PV → St
  | a :: as, v :: vs => St.moved (match mvTok a v with | some tok => st.give tok | none => st) as vs
  | _, _ => st

def mvToks : List AS → List PV → List Nat
  | a :: as, v :: vs => (mvTok a v).toList ++ mvToks as vs
  | _, _ => []
def keptToks (st : St) : List AS → List PV → List Nat
  | a :: as, v :: vs => (match mvTok a v with | some _ => [] | none => v.toks st) ++ keptToks st as vs
  | _, _ => []
def PV.ptrs : PV → List Nat
  | .s (.eptr t _ _ _) => [t]
  | _ => []
/-- What is given away is given once, and shown nowhere else. -/
def apartB (ts : List Nat) : List Nat → Bool
  | [] => true
  | m :: ms => cond (memb ts m) false (cond (memb ms m) false (apartB ts ms))
def RS.val (d : Nat) : (r : RS) → r.I → (Bool × List PC) × List (Nat × Buf)
  | .d (.sc s), x => ((false, [.d ⟨s, x⟩]), [])
  | .d (.ag cs), x => ((true, (cs.cells x).map .d), [])
  | .fresh e, x => ((false, [.own d]), [(d, ⟨true, e, x⟩)])
def RSs.vals (d : Nat) : (rs : List RS) → RSs.I rs → List (Bool × List PC) × List (Nat × Buf)
  | [], _ => ([], [])
  | [r], x => let q := r.val d x; ([q.1], q.2)
  | r :: r' :: rs, x => let q := r.val d x.1; let p := RSs.vals (d + 1) (r' :: rs) x.2; (q.1 :: p.1, q.2 ++ p.2)
def packPV : List (Bool × List PC) → PV
  | [(false, [p])] => .s p
  | [(true, ps)] => .agg ps
  | vs => .tup vs
def RSs.tok (d : Nat) : List RS → Nat
  | [_] => d
  | _ => 1000 * (d + 1) + 500

def St.results (st : St) (dst : Option Nat) (rs : List RS) (y : RSs.I rs) : St := match dst with
  | none => st
  | some d => let q := RSs.vals (RSs.tok d rs) rs y
    (newBufs st q.2).setT (some d) (packPV q.1)

def callCon {R : Type} (E : Env) (con : Con) (args : List PV) (dst : Option Nat) (st : St) (k : St → Option R) : Option R :=
  match decArgs E.C st con.as args with
  | none => none
  | some z =>
    let ts := keptToks st con.as args
    let ms := mvToks con.as args
    cond (apartB (args.flatMap PV.ptrs ++ ts) ms && Nat.blt con.rs.length 400)
      (let st1 := cond (con.rs.any RS.hasSl) (st.share ts) st
       let st2 := st1.moved con.as args
       (con.f z).bind fun y => k (st2.results dst con.rs y)) none

def VTs.vals (d : Nat) : (vs : VTs) → vs.I → List (Bool × List PC)
  | .nil, _ => []
  | .cons (.sc s) .nil, x => [(false, [.d ⟨s, x⟩])]
  | .cons (.ag cs) .nil, x => [(true, (cs.cells x).map .d)]
  | .cons (.sc s) (.cons v' r), x => (false, [.d ⟨s, x.1⟩]) :: VTs.vals d (.cons v' r) x.2
  | .cons (.ag cs) (.cons v' r), x => (true, (cs.cells x.1).map .d) :: VTs.vals d (.cons v' r) x.2
def VTs.hasSl : VTs → Bool
  | .nil => false
  | .cons v r => v.hasSl || r.hasSl

def opvs (st : St) : List Operand → Option (List PV)
  | [] => some []
  | o :: l => match opv st o, opvs st l with
    | some v, some vs => some (v :: vs)
    | _, _ => none
/-- A call's arguments; a literal nil slice by its type. -/
def argPV (E : Env) (st : St) (o : Operand) (t : TypeId) : Option PV := match o with
  | .const (.slice none 0 0) => match E.tyOf t with
    | some ti => match ti.vt with
      | .sc (.sl e) => some (.s (.d ⟨.sl e, []⟩))
      | _ => none
    | none => none
  | o => opv st o
def argPVs (E : Env) (st : St) : List Operand → List TypeId → Option (List PV)
  | [], _ => some []
  | o :: l, t :: ts => match argPV E st o t, argPVs E st l ts with
    | some v, some vs => some (v :: vs)
    | _, _ => none
  | _ :: _, [] => none

def b_and (k : IntKind) (x y : Int) : Int := k.wrap (BitVec.toNat (BitVec.ofInt k.bits x &&& BitVec.ofInt k.bits y))
def b_or (k : IntKind) (x y : Int) : Int := k.wrap (BitVec.toNat (BitVec.ofInt k.bits x ||| BitVec.ofInt k.bits y))
def b_xor (k : IntKind) (x y : Int) : Int := k.wrap (BitVec.toNat (BitVec.ofInt k.bits x ^^^ BitVec.ofInt k.bits y))
def b_andNot (k : IntKind) (x y : Int) : Int := k.wrap (BitVec.toNat (BitVec.ofInt k.bits x &&& ~~~(BitVec.ofInt k.bits y)))
def b_not (k : IntKind) (x : Int) : Int := k.wrap (BitVec.toNat (BitVec.ofInt k.bits (if k.signed then -1 else k.max) ^^^ BitVec.ofInt k.bits x))
def b_shl (k : IntKind) (x y : Int) : Int := k.wrap (x * 2 ^ (min y.toNat k.bits))
def b_shr (k : IntKind) (x y : Int) : Int := x.fdiv (2 ^ (min y.toNat k.bits))
abbrev w_i64 (x : Int) : Int := IntKind.wrap .i64 x
abbrev w_u64 (x : Int) : Int := IntKind.wrap .u64 x
abbrev w_i32 (x : Int) : Int := IntKind.wrap .i32 x
abbrev w_u32 (x : Int) : Int := IntKind.wrap .u32 x
abbrev w_u8 (x : Int) : Int := IntKind.wrap .u8 x
def PV.i (k : IntKind) (x : Int) : PV := .s (.d ⟨.int k, x⟩)
def PV.bo (b : Bool) : PV := .s (.d ⟨.bool, b⟩)

def binInt {R : Type} (op : BinOp) (k k' : IntKind) (x y : Int) (ret : PV → Option R) : Option R :=
  match op with
  | .shl => grd (decide (0 ≤ y)) (ret (.i k (b_shl k x y)))
  | .shr => grd (decide (0 ≤ y)) (ret (.i k (b_shr k x y)))
  | op => cond (decide (k = k')) (match op with
    | .quo => cond (y == 0) none (ret (.i k (k.wrap (x.tdiv y))))
    | .rem => cond (y == 0) none (ret (.i k (x.tmod y)))
    | .add => ret (.i k (k.wrap (x + y)))
    | .sub => ret (.i k (k.wrap (x - y)))
    | .mul => ret (.i k (k.wrap (x * y)))
    | .and => ret (.i k (b_and k x y))
    | .or => ret (.i k (b_or k x y))
    | .xor => ret (.i k (b_xor k x y))
    | .andNot => ret (.i k (b_andNot k x y))
    | .eql => ret (.bo (x == y))
    | .neq => ret (.bo (x != y))
    | .lss => ret (.bo (decide (x < y)))
    | .leq => ret (.bo (decide (x ≤ y)))
    | .gtr => ret (.bo (decide (x > y)))
    | .geq => ret (.bo (decide (x ≥ y)))
    | _ => none) none
def binStr {R : Type} (op : BinOp) (x y : ByteArray) (ret : PV → Option R) : Option R := match op with
  | .eql => ret (.bo (x.toList == y.toList))
  | .neq => ret (.bo (!(x.toList == y.toList)))
  | .add => grd (decide (x.size + y.size ≤ 9223372036854775807)) (ret (.s (.d ⟨.str, x ++ y⟩)))
  | _ => none
def binBool {R : Type} (op : BinOp) (x y : Bool) (ret : PV → Option R) : Option R := match op with
  | .eql => ret (.bo (x == y))
  | .neq => ret (.bo (!(x == y)))
  | _ => none
def eqI (x y : Int) (b : Bool) : Bool := cond (x == y) b false
def eqB (x y : Bool) (b : Bool) : Bool := cond (x == y) b false
/-- Are cells the same? -/
def flatEq : Scs → List PC → List PC → Option Bool
  | .nil, [], [] => some true
  | .cons (.int k) r, .d ⟨.int k1, x⟩ :: l, .d ⟨.int k2, y⟩ :: m => cond (decide (k1 = k) && decide (k2 = k)) (match flatEq r l m with
    | some b => some (eqI x y b)
    | none => none) none
  | .cons .bool r, .d ⟨.bool, x⟩ :: l, .d ⟨.bool, y⟩ :: m => match flatEq r l m with
    | some b => some (eqB x y b)
    | none => none
  | _, _, _ => none

def binStep {R : Type} (E : Env) (op : BinOp) (T : TypeId) (a b : PV) (k : PV → Option R) : Option R :=
  match a, b with
  | .s (.d ⟨.int kd, x⟩), .s (.d ⟨.int kd', y⟩) => binInt op kd kd' x y k
  | .s (.d ⟨.str, x⟩), .s (.d ⟨.str, y⟩) => binStr op x y k
  | .s (.d ⟨.bool, x⟩), .s (.d ⟨.bool, y⟩) => match E.tyOf T with
    | some ti => match ti.vt with
      | .sc .bool => binBool op x y k
      | _ => none
    | none => none
  | .agg ps, .agg qs => cond (memb E.eqs T) (match E.tyOf T with
    | some ti => match ti.vt with
      | .ag cs => match op, flatEq cs ps qs with
        | .eql, some c => k (.bo c)
        | .neq, some c => k (.bo (!c))
        | _, _ => none
      | _ => none
    | none => none) none
  | _, _ => none

def fillCells : List PC → List (Nat × List PC) → Option (List PC)
  | l, [] => some l
  | l, (o, cs) :: r => match splice l o cs with
    | some l' => fillCells l' r
    | none => none
def PV.cells : PV → Option (List PC)
  | .s .dead => none
  | .s .undef => none
  | .s p => some [p]
  | .agg ps => some ps
  | .tup _ => none
def TI.place (ti : TI) (i : Nat) : Option (Nat × Nat) := match ti.flds with
  | [] => cond (Nat.blt i ti.arr.1) (some (i * ti.arr.2.1, ti.arr.2.1)) none
  | l => (nth l i).map fun f => (f.1, f.2.1)
def partCells (st : St) (ti : TI) : List (Nat × Operand) → Option (List (Nat × List PC))
  | [] => some []
  | (i, o) :: r => match opv st o, ti.place i, partCells st ti r with
    | some v, some p, some q => match v.cells with
      | some cs => cond (Nat.beq cs.length p.2) (some ((p.1, cs) :: q)) none
      | none => none
    | _, _, _ => none
def zeroD : Scs → List PC
  | .nil => []
  | .cons (.fn _ _) r => .dead :: zeroD r
  | .cons s r => .d ⟨s, s.zero⟩ :: zeroD r

/-- A row of elements that a slice's literal names, in order. -/
def litElems (E : Env) (st : St) (e : VT) : Nat → List (Nat × Operand) → Option (List e.I)
  | _, [] => some []
  | n, (i, o) :: r => cond (Nat.beq i n) (match opv st o with
    | some v => match toVT E.C st e v, litElems E st e (n + 1) r with
      | some x, some l => some (x :: l)
      | _, _ => none
    | none => none) none
def litToks (st : St) : List (Nat × Operand) → List Nat
  | [] => []
  | (_, o) :: r => (match opv st o with | some v => v.toks st | none => []) ++ litToks st r

def loadCells (ag : Bool) (size : Nat) (cs : List PC) : Option PV := match ag, cs with
  | true, l => cond (Nat.ble size l.length) (some (.agg (l.take size))) none
  | false, c :: _ => some (.s c)
  | false, [] => none
def VT.isAg : VT → Bool
  | .sc _ => false
  | .ag _ => true

def caps (st : St) : List Operand → Option (List Cap)
  | [] => some []
  | o :: l => match opc st o, caps st l with
    | some (.loc s 0), some r => some (.loc s :: r)
    | some (.sref cs), some r => some (.sref cs :: r)
    | _, _ => none

def oInt (st : St) (o : Operand) : Option Int := match opc st o with
  | some (.d ⟨.int _, x⟩) => some x
  | _ => none

def maxI (x y : Int) : Int := if y > x then y else x
def minI (x y : Int) : Int := if y < x then y else x
def foldI (f : Int → Int → Int) (k : IntKind) : Int → List PV → Option Int
  | x, [] => some x
  | x, .s (.d ⟨.int k', y⟩) :: l => cond (decide (k = k')) (foldI f k (f x y) l) none
  | _, _ => none

def room : Nat := 140737488355328

/-- What is appended. -/
def appSrc (st : St) (tok : Nat) (e : VT) : PV → Option (List e.I)
  | .s (.d c) => c.as (.sl e)
  | .s (.own t) => cond (Nat.beq t tok) none (match look st.b t with
    | some B => castL B.e e B.xs
    | none => none)
  | .s (.osuf t lo) => cond (Nat.beq t tok) none (match look st.b t with
    | some B => match castL B.e e B.xs with
      | some xs => some (xs.drop lo)
      | none => none
    | none => none)
  | .s (.opre t hi) => cond (Nat.beq t tok) none (match look st.b t with
    | some B => match castL B.e e B.xs with
      | some xs => some (xs.take hi)
      | none => none
    | none => none)
  | _ => none
def preOf {α : Type} : Option Nat → List α → List α
  | none, xs => xs
  | some n, xs => xs.take n
def preX : Option Nat → Bool → Bool
  | none, _ => true
  | some _, x => x
def appTok : PV → Option (Nat × Option Nat)
  | .s (.own tok) => some (tok, none)
  | .s (.opre tok hi) => some (tok, some hi)
  | _ => none
def appendStep {R : Type} (E : Env) (T : TypeId) (d : Nat) (a b : PV) (st : St) (k : St → Option R) : Option R :=
  match appTok a, E.tyOf T with
  | some (tok, hi), some ti => match look st.b tok with
    | some ⟨x, e, xs⟩ => match appSrc st tok e b, ti.vt with
      | some ys, .sc (.sl e') => cond (Nat.beq e'.size e.size && Nat.ble 1 e.size && Nat.ble 1 ti.eb)
        (let xs' := preOf hi xs
        cond (preX hi x)
        (grd (decide ((xs'.length + ys.length) * ti.eb ≤ room))
          (let st1 := st.kill (PC.atTok tok)
           k ({ st1 with b := put st1.b tok ⟨x, e, xs' ++ ys⟩ }.setT (some d) (.s (.own tok))))) none) none
      | _, _ => none
    | none => none
  | _, _ => none

/-- Is the first type a slice's with elements of so many cells, or a string's? -/
def slTy (E : Env) (ts : List TypeId) (n : Nat) : Bool := match ts with
  | t :: _ => match E.tyOf t with
    | some ti => match ti.vt with
      | .sc (.sl e) => Nat.beq e.size n
      | _ => false
    | none => false
  | [] => false
def slTyE (E : Env) (ts : List TypeId) (e : VT) : Bool := match ts with
  | t :: _ => match E.tyOf t with
    | some ti => match ti.vt with
      | .sc (.sl e') => match VT.dec e' e with
        | .isTrue _ => true
        | .isFalse _ => false
      | _ => false
    | none => false
  | [] => false
def strTy (E : Env) (ts : List TypeId) : Bool := match ts with
  | t :: _ => match E.tyOf t with
    | some ti => match ti.vt with
      | .sc .str => true
      | _ => false
    | none => false
  | [] => false
def builtinStep {R : Type} (E : Env) (b : Builtin) (args : List PV) (ts : List TypeId) (dst : Option Nat) (st : St) (k : St → Option R) : Option R :=
  match b, args, dst with
  | .len, [.s (.d ⟨.sl e, xs⟩)], _ => match slTy E ts e.size with
    | true => k (st.setT dst (.s (.d ⟨.int .i64, ((List.length xs : Nat) : Int)⟩)))
    | false => none
  | .len, [.s (.d ⟨.str, s⟩)], _ => match strTy E ts with
    | true => k (st.setT dst (.s (.d ⟨.int .i64, ((ByteArray.size s : Nat) : Int)⟩)))
    | false => none
  | .len, [.s (.own tok)], _ => match look st.b tok with
    | some B => match slTy E ts B.e.size with
      | true => k (st.setT dst (.s (.d ⟨.int .i64, ((List.length B.xs : Nat) : Int)⟩)))
      | false => none
    | none => none
  | .max, .s (.d ⟨.int kd, x⟩) :: l, _ => match foldI maxI kd x l with
    | some y => k (st.setT dst (.s (.d ⟨.int kd, y⟩)))
    | none => none
  | .min, .s (.d ⟨.int kd, x⟩) :: l, _ => match foldI minI kd x l with
    | some y => k (st.setT dst (.s (.d ⟨.int kd, y⟩)))
    | none => none
  | .clear, [.s (.osuf tok lo)], none => match look st.b tok with
    | some ⟨true, e, xs⟩ => match slTyE E ts e && e.noFn && Nat.ble 1 e.size with
      | true => let st1 := st.kill (PC.ptrTo tok)
        k { st1 with b := put st1.b tok ⟨true, e, xs.take lo ++ List.replicate (xs.length - lo) e.zero⟩ }
      | false => none
    | _ => none
  | .append, [a, b], some d => match ts with
    | t :: t' :: _ => match E.tyOf t' with
      | some ti' => match ti'.vt with
        | .sc (.sl _) => appendStep E t d a b st k
        | _ => none
      | none => none
    | _ => none
  | _, _, _ => none

def storeElem {R : Type} (E : Env) (tok : Nat) (i : Int) (size : Nat) (v : PV) (st : St) (k : St → Option R) : Option R :=
  match look st.b tok with
  | some ⟨true, e, xs⟩ => match toVT E.C st e v with
    | some x => cond (Nat.beq size e.size && e.noFn && !memb (v.toks st) tok)
        (let st1 := (st.share (v.toks st)).kill (PC.ptrTo tok)
         k { st1 with b := put st1.b tok ⟨true, e, xs.set i.toNat x⟩ }) none
    | none => none
  | _ => none

/-- An array's index, one by one. -/
def splitIdx {R : Type} (i : Int) : Nat → Nat → (Nat → Option R) → Option R
  | 0, _, _ => none
  | n + 1, j, f => cond (i == ((j : Nat) : Int)) (f j) (splitIdx i n (j + 1) f)

def step1 {R : Type} (E : Env) (o : Oper) (st : St) (k : St → Option R) : Option R :=
  let ret (v : Option PV) : Option R := match v with | some v => k (st.setT o.dst v) | none => none
  match o.op with
  | .move (.const (.slice none 0 0)) | .assign (.const (.slice none 0 0)) => match o.dst, E.tyOf o.type with
    | some d, some ti => match ti.vt with
      | .sc (.sl e) => k ((st.newBuf d ⟨true, e, []⟩).setT (some d) (.s (.own d)))
      | _ => none
    | _, _ => none
  | .move x => ret (opv st x)
  | .assign x => match opv st x with
    | some (.s (.opre tok hi)) => match look st.b tok, o.dst, E.q with
      | some ⟨true, e, xs⟩, some d, false => let st1 := st.kill (PC.atTok tok)
        k ({ st1 with b := put st1.b tok ⟨true, e, xs.take hi⟩ }.setT (some d) (.s (.own tok)))
      | _, _, _ => none
    | v => ret v
  | .pick c a b => match opc st c, opc st a, opc st b with
    | some (.d ⟨.bool, c⟩), some (.d ⟨.bool, x⟩), some (.d ⟨.bool, y⟩) => k (st.setT o.dst (.s (.d ⟨.bool, cond c x y⟩)))
    | _, _, _ => none
  | .alloc T => match o.dst, E.tyOf T with
    | some d, some ti => let q := zeroRow (1000 * (d + 1)) ti.vt.scs
      cond (Nat.blt ti.vt.size 400) (k ((newBufs st q.2).newRow d q.1)) none
    | _, _ => none
  | .box T v => match o.dst, E.tyOf T, opv st v with
    | some d, some ti, some v => match v.cells with
      | some cs => cond (Nat.beq cs.length ti.vt.size) (k (st.newRow d cs)) none
      | none => none
    | _, _, _ => none
  | .build T parts => match E.tyOf T with
    | some ti => match ti.vt, partCells st ti parts.toList with
      | .ag cs, some ps => ret ((fillCells (zeroD cs) ps).map .agg)
      | _, _ => none
    | none => none
  | .buildSlice T n parts => match o.dst, E.tyOf T with
    | some d, some ti => match ti.vt with
      | .sc (.sl e) => match litElems E st e 0 parts.toList with
        | some xs => cond (Nat.beq n parts.size && Nat.ble (n * e.size) 16777216 && Nat.ble 1 e.size && e.noFn)
            (k (((St.share st (litToks st parts.toList)).newBuf d ⟨true, e, xs⟩).setT (some d) (.s (.own d)))) none
        | none => none
      | _ => none
    | _, _ => none
  | .load T a => match E.tyOf T, opc st a with
    | some ti, some (.loc r off) => match st.row r with
      | some cs => ret (loadCells ti.vt.isAg ti.vt.size (cs.drop off))
      | none => none
    | some ti, some (.sref cs) => ret (loadCells ti.vt.isAg ti.vt.size (cs.map .d))
    | some ti, some (.eptr _ _ _ cs) => ret (loadCells ti.vt.isAg ti.vt.size (cs.map .d))
    | _, _ => none
  | .store T a v => match o.dst with
   | some _ => none
   | none => match E.tyOf T, opc st a, opv st v with
    | some ti, some (.loc r off), some v => match st.row r, v.cells with
      | some cs, some ps => cond (Nat.beq ps.length ti.vt.size) (match splice cs off ps with
        | some cs' => k { st with r := (r, some cs') :: st.r }
        | none => none) none
      | _, _ => none
    | some ti, some (.eptr tok i 0 _), some v => storeElem E tok i ti.vt.size v st k
    | _, _, _ => none
  | .nilCheck x => match opc st x with
    | some (.loc s n) => ret (some (.s (.loc s n)))
    | some (.sref cs) => ret (some (.s (.sref cs)))
    | some (.eptr t i n cs) => ret (some (.s (.eptr t i n cs)))
    | _ => none
  | .binOp op T x y _ => match opv st x, opv st y with
    | some a, some b => binStep E op T a b fun v => k (st.setT o.dst v)
    | _, _ => none
  | .unOp .not _ x => match opc st x with
    | some (.d ⟨.bool, b⟩) => k (st.setT o.dst (.s (.d ⟨.bool, !b⟩)))
    | _ => none
  | .unOp .neg _ x => match opc st x with
    | some (.d ⟨.int kd, n⟩) => k (st.setT o.dst (.i kd (kd.wrap (0 - (show Int from n)))))
    | _ => none
  | .unOp .xor _ x => match opc st x with
    | some (.d ⟨.int kd, n⟩) => k (st.setT o.dst (.i kd (b_not kd n)))
    | _ => none
  | .convert src dst x => match E.tyOf dst, E.tyOf src, opc st x with
    | some ti, some _, some (.d ⟨.int _, n⟩) => match ti.vt with
      | .sc (.int kd) => k (st.setT o.dst (.s (.d ⟨.int kd, kd.wrap n⟩)))
      | _ => none
    | _, _, _ => none
  | .makeFunc (.func f) first cs => cond (Nat.beq first.size 0) (match caps st cs.toList with
    | some l => ret (some (.s (.fn f l)))
    | none => none) none
  | .call c => match argPVs E st c.args.toList c.argTypes.toList with
    | none => none
    | some args => match c.callee with
      | .builtin b => builtinStep E b args c.argTypes.toList o.dst st k
      | .value f => match opc st f with
        | some (.fn F cs) => match E.C F with
          | some con => callCon E con (args ++ cs.map capPV) o.dst st k
          | none => none
        | some (.d ⟨.fn a r, φ⟩) => match toVTs E.C st a args with
          | some z =>
            let st1 := cond r.hasSl (st.share (args.flatMap (PV.toks st))) st
            (φ z).bind fun y => k (st1.setT o.dst (packPV (VTs.vals 0 r y)))
          | none => none
        | _ => none
      | _ => none
  | .extract t i => match opv st t with
    | some (.tup vs) => match nth vs i with
      | some (false, [p]) => ret (some (.s p))
      | some (true, ps) => ret (some (.agg ps))
      | _ => none
    | _ => none
  | .slice T x lo hi mx => match E.tyOf T, opc st x with
    | some ti, some p => match ti.vt, (match p with
        | .d ⟨.sl e, xs⟩ => some (⟨e, xs, none⟩ : (e : VT) × (_ : List e.I) × Option Nat)
        | .own tok => match look st.b tok with
          | some B => some ⟨B.e, B.xs, some tok⟩
          | none => none
        | _ => none) with
      | .sc (.sl e'), some ⟨e, xs, ot⟩ => match Nat.beq e'.size e.size with
       | false => none
       | true =>
        match (match hi with | none => some ((List.length xs : Nat) : Int) | some h => oInt st h), (match lo with | none => some 0 | some l => oInt st l), mx with
        | some h, some l, none =>
          grd (decide (0 ≤ l)) (grd (decide (l ≤ h)) (grd (decide (h ≤ ((List.length xs : Nat) : Int)))
            (match ot, memb E.shrink (o.dst.getD 0), lo, hi with
              | some tok, true, none, _ => k (st.setT o.dst (.s (.opre tok h.toNat)))
              | some tok, true, some _, none => k (st.setT o.dst (.s (.osuf tok l.toNat)))
              | some _, true, some _, some _ => none
              | some tok, false, _, _ => k ((st.share [tok]).setT o.dst (.s (.d ⟨.sl e, (xs.take h.toNat).drop l.toNat⟩)))
              | none, _, _, _ => k (st.setT o.dst (.s (.d ⟨.sl e, (xs.take h.toNat).drop l.toNat⟩))))))
        | some h, some l, some m => match oInt st m, o.dst, hi with
          | some m, some _, some _ => grd (decide (0 ≤ l)) (grd (decide (l ≤ h)) (grd (decide (h ≤ m)) (grd (decide (m ≤ ((List.length xs : Nat) : Int)))
              (match ot with
                | some tok => k ((st.share [tok]).setT o.dst (.s (.d ⟨.sl e, (xs.take h.toNat).drop l.toNat⟩)))
                | none => k (st.setT o.dst (.s (.d ⟨.sl e, (xs.take h.toNat).drop l.toNat⟩)))))))
          | _, _, _ => none
        | _, _, _ => none
      | _, _ => none
    | _, _ => none
  | .fieldAddr T x f => match E.tyOf T, opc st x with
    | some ti, some p => match nth ti.flds f with
      | some (off, _ + 1, _) => match p with
        | .loc r o' => ret (some (.s (.loc r (o' + off))))
        | .sref cs => match Nat.ble off cs.length with
          | true => ret (some (.s (.sref (cs.drop off))))
          | false => none
        | .eptr t i o' cs => match Nat.ble off cs.length with
          | true => ret (some (.s (.eptr t i (o' + off) (cs.drop off))))
          | false => none
        | _ => none
      | _ => none
    | _, _ => none
  | .field T x f => match E.tyOf T, opv st x with
    | some ti, some (.agg ps) => match nth ti.flds f with
      | some (off, n, ag) => ret (loadCells ag n (ps.drop off))
      | _ => none
    | _, _ => none
  | .indexAddr T x i => match E.tyOf T, opc st x, oInt st i with
    | some ti, some (.d ⟨.sl e, xs⟩), some i => match ti.vt with
      | .sc (.sl e') => match Nat.beq e'.size e.size with
        | true => (idx xs i).bind fun y => k (st.setT o.dst (.s (.sref (e.cells y))))
        | false => none
      | _ => none
    | some ti, some (.own tok), some i => match ti.vt, look st.b tok with
      | .sc (.sl e'), some B => match Nat.beq e'.size B.e.size with
        | true => (idx B.xs i).bind fun y => k (st.setT o.dst (.s (.eptr tok i 0 (B.e.cells y))))
        | false => none
      | _, _ => none
    | some ti, some p, some i => match ti.arr with
      | (n, m + 1, _) => splitIdx i n 0 fun j => match p with
        | .loc r off => ret (some (.s (.loc r (off + j * (m + 1)))))
        | .sref cs => match Nat.ble (j * (m + 1)) cs.length with
          | true => ret (some (.s (.sref (cs.drop (j * (m + 1))))))
          | false => none
        | _ => none
      | _ => none
    | _, _, _ => none
  | .index T x i => match E.tyOf T, opv st x, oInt st i with
    | some ti, some (.agg ps), some i => splitIdx i ti.arr.1 0 fun j => ret (loadCells ti.arr.2.2 ti.arr.2.1 (ps.drop (j * ti.arr.2.1)))
    | some ti, some (.s (.d ⟨.str, s⟩)), some i => match ti.vt with
      | .sc .str => (idx s.data.toList i).bind fun c => k (st.setT o.dst (.i .u8 ((UInt8.toNat c : Nat) : Int)))
      | _ => none
    | _, _, _ => none
  | .makeSlice T l c => match o.dst, E.tyOf T, oInt st l, oInt st c with
    | some d, some ti, some n, some m => match ti.vt with
      | .sc (.sl e) => match Nat.ble 1 ti.eb && Nat.ble 1 e.size && e.noFn with
        | true => grd (decide (0 ≤ n)) (grd (n == m) (grd (decide (n.toNat * ti.eb ≤ room))
          (k ((st.newBuf d ⟨true, e, List.replicate n.toNat e.zero⟩).setT (some d) (.s (.own d))))))
        | false => none
      | _ => none
    | _, _, _, _ => none
  | _ => none

def asBool : PV → Option Bool
  | .s (.d ⟨.bool, b⟩) => some b
  | _ => none

/-- The operations up to the next pick on a slot. -/
def splitPick (c : Nat) : List Oper → Option (List Oper × Oper × List Oper)
  | [] => none
  | o :: l => match o.op with
    | .pick (.tmp c') _ _ => cond (Nat.beq c c') (some ([], o, l)) (match splitPick c l with
      | some (g, p, r) => some (o :: g, p, r)
      | none => none)
    | _ => match splitPick c l with
      | some (g, p, r) => some (o :: g, p, r)
      | none => none
def known : List (Nat × Bool) → Nat → Bool → Bool
  | [], _, _ => false
  | (j, w) :: l, i, v => cond (Nat.beq j i) (cond (w == v) true (known l i v)) (known l i v)
def guardKnown (kn : List (Nat × Bool)) : Option (Nat × Bool) → Bool
  | none => true
  | some (j, w) => known kn j w
def deadDsts (st : St) : List Oper → St
  | [] => st
  | o :: l => deadDsts (st.setT o.dst (.s .dead)) l
/-- Are all of a guarded stretch guarded by one, in one way, or by one of its own? And does none write the slot? -/
def guardsOk (all : List Oper) (j : Nat) (want : Bool) (c : Nat) (own : List Nat) : List Oper → Bool
  | [] => true
  | o :: l => match o.guard with
    | some (i, v) => cond (Nat.beq i j) (cond (v == want) (cond (o.dst == some c) false (guardsOk all j want c (o.dst.toList ++ own) l)) false)
        (match (nth all i).bind (·.dst) with
          | some d => cond (memb own d) (cond (o.dst == some c) false (guardsOk all j want c (o.dst.toList ++ own) l)) false
          | none => false)
    | none => false

/-- Operations that write nothing that there was. -/
def isQ (o : Oper) : Bool := match o.op with
  | .move (.const (.slice none 0 0)) | .assign (.const (.slice none 0 0)) => false
  | .move _ | .assign _ | .pick .. | .alloc _ | .box .. | .build .. | .load .. | .nilCheck _ | .binOp .. | .unOp .. | .convert .. | .makeFunc .. | .extract .. | .fieldAddr .. | .field .. | .indexAddr .. | .index .. => o.dst.isSome
  | .buildSlice .. | .slice .. => o.dst.isSome
  | .call c => match c.callee with
    | .builtin .len | .builtin .max | .builtin .min => o.dst.isSome
    | .value _ => o.dst.isSome
    | _ => false
  | _ => false
/-- Is the slot that an operation writes there? -/
def dstOk (E : Env) (o : Oper) : Bool := match o.dst with
  | none => true
  | some d => Nat.blt d E.nt && Nat.ble E.lo d
def runOps (E : Env) (all : List Oper) : Nat → (R : Type) → List (Nat × Bool) → List Oper → St → (St → Option R) → Option R
  | 0, _, _, _, _, _ => none
  | _ + 1, _, _, [], st, k => k st
  | n + 1, R, kn, o :: rest, st, k => match o.guard with
    | none => step1 E o st fun st' => runOps E all n R kn rest st' k
    | some (j, want) => cond (known kn j want) (step1 E o st fun st' => runOps E all n R kn rest st' k)
      (match (nth all j).bind (·.dst) with
      | none => none
      | some c => match asBool (st.tmp c), splitPick c (o :: rest) with
        | some b, some (grp, p, rest') => cond (guardsOk all j want c [] grp && guardKnown kn p.guard && grp.all isQ) (match p.op with
          | .pick _ x y =>
            let A := runOps E.still all n Bool ((j, want) :: kn) grp (st.setT (some c) (.bo want)) fun st' => (opv st' (cond want x y)).bind asBool
            let B := (opv (deadDsts st grp) (cond want y x)).bind asBool
            (cond b (cond want A B) (cond want B A)).bind fun v =>
              runOps E all n R kn rest' ((deadDsts st grp).setT p.dst (.bo v)) k
          | _ => none) none
        | _, _ => none)

/-- What an operation has brought: its value, a row, buffers. -/
structure Del where
  d : Option Nat
  v : PV
  row : Option (Nat × List PC)
  bs : List (Nat × Buf)
def Del.put (D : Del) (st : St) : St :=
  { t := (match D.d with | some d => (d, D.v) :: st.t | none => st.t), r := (match D.row with | some (r, cs) => (r, some cs) :: st.r | none => st.r), b := D.bs ++ st.b }
def newOnes (old : List (Nat × Buf)) : List (Nat × Buf) → List (Nat × Buf)
  | [] => []
  | (t, B) :: l => match look old t with
    | none => (t, B) :: newOnes old l
    | some _ => newOnes old l
/-- The row that an operation lays or writes. -/
def rowOf (o : Oper) (st : St) : Option Nat := match o.op with
  | .alloc _ | .box _ _ => o.dst
  | .store _ a _ => match opc st a with
    | some (.loc r _) => some r
    | _ => none
  | _ => none
def delOf (o : Oper) (st st' : St) : Del :=
  ⟨o.dst, (match o.dst with | some d => st'.tmp d | none => .s .dead), (rowOf o st).bind (fun r => (st'.row r).map fun cs => (r, cs)), newOnes st.b st'.b⟩
def putDels (mask : Nat) : List (Nat × Del) → St → St
  | [], st => st
  | (i, D) :: l, st => cond (Nat.testBit mask i) (D.put (putDels mask l st)) (putDels mask l st)
def bindsAny (e : Edge) : Bool := match e.ground with
  | .textOnly _ => false
  | .gcOnly _ => false
  | _ => true
def maskOf (ms : List Nat) : List Edge → Nat
  | [] => 0
  | e :: l => cond (bindsAny e) (maskOf ms l ||| 2 ^ e.on ||| (nth ms e.on).getD 0) (maskOf ms l)
/-- Of each operation, which are surely done ahead of it. -/
def masks : List Nat → List Oper → List Nat
  | ms, [] => ms
  | ms, o :: l => masks (ms ++ [maskOf ms o.after.toList]) l
/-- From which place on all are in one order. -/
def tailAt (ms : List Nat) : Nat → Nat
  | 0 => 0
  | n + 1 => cond (Nat.beq ((nth ms n).getD 0) (2 ^ n - 1)) (tailAt ms n) (n + 1)
def dstsOf : List Oper → List Nat
  | [] => []
  | o :: l => o.dst.toList ++ dstsOf l
def noDup : List Nat → Bool
  | [] => true
  | d :: l => cond (memb l d) false (noDup l)
def isE (o : Oper) : Bool := match o.op with
  | .store _ (.tmp _) _ => o.dst.isNone
  | _ => isQ o
/-- The place of the operation that lays a slot's variable. -/
def allocAt (d : Nat) : Nat → List Oper → Option Nat
  | _, [] => none
  | i, o :: l => match o.op, o.dst with
    | .alloc _, some d' => cond (Nat.beq d' d) (some i) (allocAt d (i + 1) l)
    | _, _ => allocAt d (i + 1) l
/-- A store goes into a variable that the region lays; whoever may see the variable is in one order with the store. -/
def storeOk (ops : List Oper) (ms : List Nat) (j : Nat) (t : Nat) : Bool := match allocAt t 0 ops with
  | none => false
  | some a => Nat.testBit ((nth ms j).getD 0) a && (List.range ops.length).all fun i =>
      !(Nat.testBit ((nth ms i).getD 0) a) || Nat.beq i j || Nat.testBit ((nth ms i).getD 0) j || Nat.testBit ((nth ms j).getD 0) i
def storesOk (ops : List Oper) (ms : List Nat) : Nat → List Oper → Bool
  | _, [] => true
  | i, o :: l => match o.op with
    | .store _ (.tmp t) _ => cond (storeOk ops ms i t && o.guard.isNone) (storesOk ops ms (i + 1) l) false
    | _ => storesOk ops ms (i + 1) l
/-- A region's slots, as yet without a value; no row or buffer bears their numbers. -/
def St.prep (st : St) (ds : List Nat) : St := match ds with
  | [] => st
  | d :: l =>
    let st1 := (st.kill (PC.atLoc d)).kill (PC.ofDst d)
    St.prep { t := (d, .s .dead) :: st1.t, r := (d, none) :: st1.r, b := dropB d st1.b } l
def sameX (new old : List (Nat × Buf)) : List (Nat × Buf) → Bool
  | [] => true
  | (t, _) :: l => match look new t, look old t with
    | some C, some B => cond (B.x == C.x) (sameX new old l) false
    | _, _ => false
def setDel (j : Nat) (v : PV) : List (Nat × Del) → List (Nat × Del)
  | [] => []
  | (i, D) :: l => cond (Nat.beq i j) ((i, { D with v := v }) :: l) ((i, D) :: setDel j v l)
def deadDels : Nat → List Oper → List (Nat × Del) → List (Nat × Del)
  | _, [], ds => ds
  | i, o :: l, ds => deadDels (i + 1) l ((i, ⟨o.dst, .s .dead, none, []⟩) :: ds)
def delToks : List (Nat × Del) → List Nat
  | [] => []
  | (_, D) :: l => D.bs.map (·.1) ++ delToks l

/-- The place behind the last pick. -/
def lastPick (r : Nat) : Nat → List Oper → Nat
  | _, [] => r
  | i, o :: l => match o.op with
    | .pick .. => lastPick (i + 1) (i + 1) l
    | _ => lastPick r (i + 1) l
/-- Operations in an order of the text, each seeing only what is surely done ahead of it. -/
def dstIx : Nat → List Oper → List (Nat × Nat)
  | _, [] => []
  | i, o :: l => match o.dst with
    | some d => (i, d) :: dstIx (i + 1) l
    | none => dstIx (i + 1) l
def PC.tk : PC → Option Nat
  | .own t => some t
  | .eptr t _ _ _ => some t
  | .osuf t _ => some t
  | .opre t _ => some t
  | _ => none
def PC.okTok (bs : List (Nat × Buf)) (p : PC) : Bool := match p.tk with
  | none => true
  | some t => (look bs t).isSome
def PC.names (d : Nat) (p : PC) : Bool := PC.atLoc d p || PC.ofDst d p
def PC.away (mi i : Nat) (dl : List (Nat × Nat)) (p : PC) : Bool := dl.all fun q => Nat.testBit mi q.1 || Nat.beq q.1 i || !PC.names q.2 p
def PV.allC (f : PC → Bool) : PV → Bool
  | .s p => f p
  | .agg ps => ps.all f
  | .tup vs => vs.all fun v => v.2.all f
def bufsOwn (i d : Nat) (dl : List (Nat × Nat)) (bs : List (Nat × Buf)) : Bool := bs.all fun q => tokOf d q.1 && dl.all fun r => Nat.beq r.1 i || !tokOf r.2 q.1
/-- What an operation has brought names nothing of those that may still come, and its buffers are its own. -/
def Del.safe (o : Oper) (mi i : Nat) (dl : List (Nat × Nat)) (st : St) (D : Del) : Bool :=
  PV.allC (fun p => PC.okTok (D.bs ++ st.b) p && PC.away mi i dl p) D.v &&
  (match D.row with
    | none => true
    | some (_, cs) => cs.all fun p => PC.okTok (D.bs ++ st.b) p && PC.away mi i dl p) &&
  (match o.dst with
    | some d => bufsOwn i d dl D.bs
    | none => D.bs.isEmpty) &&
  (match o.op with
    | .store _ (.tmp t) _ => (match D.row with
      | some (r, _) => Nat.beq r t
      | none => false)
    | _ => true)
def runE (E : Env) (all : List Oper) (ms : List Nat) (dl : List (Nat × Nat)) (st0 : St) : Nat → (R : Type) → List (Nat × Bool) → Nat → List Oper → List (Nat × Del) → (List (Nat × Del) → Option R) → Option R
  | 0, _, _, _, _, _, _ => none
  | _ + 1, _, _, _, [], ds, k => k ds
  | n + 1, R, kn, i, o :: rest, ds, k =>
    let mi := (nth ms i).getD 0
    let st := putDels mi ds st0
    let go : Option R := step1 E.still o st fun st' => cond (sameX st'.b st.b st.b && Del.safe o mi i dl st (delOf o st st')) (runE E all ms dl st0 n R kn (i + 1) rest ((i, delOf o st st') :: ds) k) none
    match o.guard with
    | none => go
    | some (j, want) => cond (known kn j want) go
      (match (nth all j).bind (·.dst) with
      | none => none
      | some c => match asBool (st.tmp c), splitPick c (o :: rest) with
        | some b, some (grp, p, rest') => cond (guardsOk all j want c [] grp && guardKnown kn p.guard && grp.all isQ && Nat.testBit ((nth ms (i + grp.length)).getD 0) j) (match p.op with
          | .pick _ x y =>
            let m := i + grp.length
            let mk := (nth ms m).getD 0
            let A := runE E all ms dl st0 n Bool ((j, want) :: kn) i grp (setDel j (.bo want) ds) fun ds' => (opv (putDels mk ds' st0) (cond want x y)).bind asBool
            let B := (opv (putDels mk ds st0) (cond want y x)).bind asBool
            (cond b (cond want A B) (cond want B A)).bind fun v =>
              runE E all ms dl st0 n R kn (m + 1) rest' ((m, ⟨p.dst, .bo v, none, []⟩) :: deadDels i grp ds) k
          | _ => none) none
        | _, _ => none)
/-- Whatever an operation waits for stands ahead of it; so do guards. -/
def msLow : Nat → List Nat → Bool
  | _, [] => true
  | i, m :: l => Nat.blt m (2 ^ i) && msLow (i + 1) l
def guardsIn (ms : List Nat) : Nat → List Oper → Bool
  | _, [] => true
  | i, o :: l => (match o.guard with
    | none => true
    | some (j, _) => Nat.testBit ((nth ms i).getD 0) j) && guardsIn ms (i + 1) l
def runDraw {R : Type} (E : Env) (id : Nat) (l : List Oper) (st : St) (k : St → Option R) : Option R :=
  let ms := masks [] l
  let m := max (tailAt ms l.length) (lastPick 0 0 l)
  let es := l.take m
  cond (es.all isE && storesOk es ms 0 es && noDup (dstsOf es) && msLow 0 ms && guardsIn ms 0 l)
    (let st0 := (st.share ((look E.shr id).getD [])).prep (dstsOf es)
     runE E l ms (dstIx 0 es) st0 (l.length + 1) R [] 0 es [] fun ds =>
       runOps E l (l.length + 1) R [] (l.drop m) (putDels (2 ^ m - 1) ds st0) k) none

inductive AX where
  | normal
  | exit (id : Nat)
  | goto (l : Nat)
  | ret

def PC.frz (b : List (Nat × Buf)) : PC → PC
  | .own tok => match look b tok with
    | some B => .d ⟨.sl B.e, B.xs⟩
    | none => .dead
  | p => p
def PV.frz (b : List (Nat × Buf)) : PV → PV
  | .s p => .s (p.frz b)
  | v => v
def pickT (K : Keep) (st : St) : List Nat → List (Nat × PV)
  | [] => []
  | n :: l => (n, cond (memb K.fz n) ((st.tmp n).frz st.b) (st.tmp n)) :: pickT K st l
def pickR (K : Keep) (st : St) : List Nat → List (Nat × Option (List PC))
  | [] => []
  | n :: l => (n, cond (memb K.fz n) ((st.row n).map (List.map (PC.frz st.b))) (st.row n)) :: pickR K st l
def pickB (b : List (Nat × Buf)) : List Nat → List (Nat × Buf)
  | [] => []
  | t :: l => match look b t with
    | some B => (t, B) :: pickB b l
    | none => pickB b l
def rowToks (st : St) (n : Nat) : List Nat := ((st.row n).getD []).flatMap fun | .own t => [t] | _ => []
def PC.retok (a b : Nat) : PC → PC
  | .own t => .own (cond (Nat.beq t a) b t)
  | .eptr t i o cs => .eptr (cond (Nat.beq t a) b t) i o cs
  | .osuf t n => .osuf (cond (Nat.beq t a) b t) n
  | .opre t n => .opre (cond (Nat.beq t a) b t) n
  | p => p
def PV.mapC (f : PC → PC) : PV → PV
  | .s p => .s (f p)
  | .agg ps => .agg (ps.map f)
  | .tup vs => .tup (vs.map fun v => (v.1, v.2.map f))
/-- A buffer gets another number. -/
def St.retok (st : St) (a b : Nat) : St := match look st.b a with
  | none => st
  | some B =>
    let st1 := st.kill (PC.atTok b)
    { t := st1.t.map fun p => (p.1, p.2.mapC (PC.retok a b)), r := st1.r.map fun p => (p.1, p.2.map (List.map (PC.retok a b))), b := put (dropTok a st1.b) b B }
def St.retoks (st : St) : List Nat → St
  | [] => st
  | n :: l => match st.tmp n with
    | .s (.own t) => cond (Nat.beq t (500000 + n)) (St.retoks st l) (St.retoks (st.retok t (500000 + n)) l)
    | _ => St.retoks st l
def St.restrict (st0 : St) (K : Keep) : St :=
  let st := st0.retoks K.rn
  let st1 := st.share (K.sh ++ K.fz.flatMap fun n => (st.tmp n).toks st ++ rowToks st n)
  let bs := pickB st1.b K.bs
  let f := fun p => !PC.okTok bs p
  ⟨(pickT K st1 K.ts).map fun p => (p.1, p.2.mapD f), (pickR K st1 K.rs).map fun p => (p.1, p.2.map (List.map (PC.mapD f))), bs⟩

def firstRegion : Code → Nat
  | .region id _ _ => id
  | .seq a _ => firstRegion a
  | .block _ b => firstRegion b
  | .loop b => firstRegion b
  | .scope b => firstRegion b
  | _ => 0

def loopN {R : Type} (body : St → (AX → St → Option R) → Option R) (K : Keep) : Nat → St → (AX → St → Option R) → Option R
  | 0, _, _ => none
  | n + 1, st, k => body st fun e st' => match e with
    | .normal => loopN body K n (st'.restrict K) k
    | e => k e st'

def gotoN {R : Type} (body : St → (AX → St → Option R) → Option R) (l : Nat) (K : Keep) : Nat → St → (AX → St → Option R) → Option R
  | 0, _, _ => none
  | n + 1, st, k => body st fun e st' => match e with
    | .goto l' => cond (Nat.beq l' l) (gotoN body l K n (st'.restrict K) k) none
    | e => k e st'

def aexec {R : Type} (E : Env) : Code → St → (AX → St → Option R) → Option R
  | .skip, st, k => k .normal st
  | .region _ ops false, st, k => cond (ops.toList.all (dstOk E)) (runOps E ops.toList (ops.size + 1) R [] ops.toList st fun st' => k .normal st') none
  | .region id ops true, st, k => cond (ops.toList.all (dstOk E)) (runDraw E id ops.toList st fun st' => k .normal st') none
  | .seq a b, st, k => aexec E a st fun e st' => match e with
    | .normal => aexec E b st' k
    | e => k e st'
  | .cond c a b, st, k => match (opv st c).bind asBool with
    | some t => cond t (aexec E a st k) (aexec E b st k)
    | none => none
  | .block id c, st, k => aexec E c st fun e st' => match e with
    | .exit id' => cond (Nat.beq id' id) (k .normal st') (k (.exit id') st')
    | e => k e st'
  | .loop c, st, k => loopN (aexec E c) (E.keepOf (firstRegion c)) (E.fuel (E.keepOf (firstRegion c))) (st.restrict (E.keepOf (firstRegion c))) k
  | .scope (.seq a (.seq (.label l) b)), st, k => cond (findLabel a l).isNone (aexec E a st fun e st' => match e with
    | .normal => gotoN (aexec E b) l (E.keepOf (10000 + l)) E.N (st'.restrict (E.keepOf (10000 + l))) k
    | .goto _ => none
    | e => k e st') none
  | .exit id, st, k => k (.exit id) st
  | .goto l, st, k => k (.goto l) st
  | .ret, st, k => k .ret st
  | _, _, _ => none

inductive Dir where
  | a | b | t | f | i | l | g
def subAt : List Dir → Code → Code
  | .a :: p, .seq x _ => subAt p x
  | .b :: p, .seq _ y => subAt p y
  | .t :: p, .cond _ x _ => subAt p x
  | .f :: p, .cond _ _ y => subAt p y
  | .i :: p, .block _ c => subAt p c
  | .l :: p, .loop c => subAt p c
  | .g :: p, .scope (.seq _ (.seq (.label _) b)) => subAt p b
  | .a :: p, .scope (.seq a _) => subAt p a
  | _, c => c
/-- What is done behind the code at a place; the numbers: the rounds left of the loops around it. -/
def kontAt {R : Type} (E : Env) : List Dir → Code → List Nat → (AX → St → Option R) → (AX → St → Option R)
  | .a :: p, .seq x y, ns, k => kontAt E p x ns fun e st' => match e with
    | .normal => aexec E y st' k
    | e => k e st'
  | .b :: p, .seq _ y, ns, k => kontAt E p y ns k
  | .t :: p, .cond _ x _, ns, k => kontAt E p x ns k
  | .f :: p, .cond _ _ y, ns, k => kontAt E p y ns k
  | .i :: p, .block id c, ns, k => kontAt E p c ns fun e st' => match e with
    | .exit id' => cond (Nat.beq id' id) (k .normal st') (k (.exit id') st')
    | e => k e st'
  | .l :: p, .loop c, n :: ns, k => kontAt E p c ns fun e st' => match e with
    | .normal => loopN (aexec E c) (E.keepOf (firstRegion c)) n (st'.restrict (E.keepOf (firstRegion c))) k
    | e => k e st'
  | .g :: p, .scope (.seq _ (.seq (.label lb) b)), n :: ns, k => kontAt E p b ns fun e st' => match e with
    | .goto l' => cond (Nat.beq l' lb) (gotoN (aexec E b) lb (E.keepOf (10000 + lb)) n (st'.restrict (E.keepOf (10000 + lb))) k) none
    | e => k e st'
  | .a :: p, .scope (.seq a (.seq (.label lb) b)), ns, k => kontAt E p a ns fun e st' => match e with
    | .normal => gotoN (aexec E b) lb (E.keepOf (10000 + lb)) E.N (st'.restrict (E.keepOf (10000 + lb))) k
    | .goto _ => none
    | e => k e st'
  | _, _, _, k => k

def initT : (i : Nat) → (as : List AS) → ASs.I as → List (Nat × PV) × List (Nat × Buf)
  | _, [], _ => ([], [])
  | i, .d v :: as, z => let q := initT (i + 1) as z.2; ((i, encVT v z.1) :: q.1, q.2)
  | i, .ref cs :: as, z => let q := initT (i + 1) as z.2; ((i, .s (.sref (cs.cells z.1))) :: q.1, q.2)
  | i, .mv e :: as, z => let q := initT (i + 1) as z.2; ((i, .s (.own i)) :: q.1, (i, ⟨true, e, z.1⟩) :: q.2)
def initSt (as : List AS) (z : ASs.I as) : St :=
  let q := initT 0 as z
  ⟨q.1, [], q.2⟩

def resPVs (E : Env) (st : St) : List ResultVar → Option (List PV)
  | [] => some []
  | r :: l => match (match r with
      | .tmp t => some (st.tmp t)
      | .cell t T => match E.tyOf T, st.tmp t with
        | some ti, .s (.loc r off) => match st.row r with
          | some cs => loadCells ti.vt.isAg ti.vt.size (cs.drop off)
          | none => none
        | _, _ => none), resPVs E st l with
    | some v, some vs => some (v :: vs)
    | _, _ => none
def decRes (C : Tab) (st : St) : (r : RS) → PV → Option r.I
  | .d v, p => cond v.noFn (toVT C st v p) none
  | .fresh e, .s (.own tok) => cond e.noFn (match look st.b tok with
    | some ⟨true, e', xs⟩ => castL e' e xs
    | _ => none) none
  | _, _ => none
def decRess (C : Tab) (st : St) : (rs : List RS) → List PV → Option (RSs.I rs)
  | [], [] => some ()
  | [r], [v] => decRes C st r v
  | r :: r' :: rs, v :: vs => match decRes C st r v, decRess C st (r' :: rs) vs with
    | some x, some y => some (x, y)
    | _, _ => none
  | _, _ => none
def resNew : List RS → List PV → List Nat
  | .fresh _ :: rs, .s (.own tok) :: vs => tok :: resNew rs vs
  | _ :: rs, _ :: vs => resNew rs vs
  | _, _ => []
def resOld (st : St) : List RS → List PV → List Nat
  | .d _ :: rs, v :: vs => v.toks st ++ resOld st rs vs
  | _ :: rs, _ :: vs => resOld st rs vs
  | _, _ => []
def finish (E : Env) (res : List ResultVar) (rs : List RS) (e : AX) (st : St) : Option (RSs.I rs) := match e with
  | .normal | .ret => match resPVs E st res with
    | some vs => cond (apartB (resOld st rs vs) (resNew rs vs)) (decRess E.C st rs vs) none
    | none => none
  | _ => none

def arun (E : Env) (fn : Func) (as : List AS) (rs : List RS) (z : ASs.I as) : Option (RSs.I rs) := match fn.body with
  | some c => cond (Nat.ble as.length E.nt) (aexec E c (initSt as z) (finish E fn.results.toList rs)) none
  | none => none

end Go.PgAM
