/-
  Part 1 of the texts that the claim leans on: an abstract machine over the model's code, its soundness, and plain laws.
-/
import Derived.WalkKit
import Derived.KernelRfl
import Derived.Laws.CopyRow
import Derived.Laws.Rows
/-
  Definitions of an abstract machine over the model's code, by which the functions of the program are lifted to plain Lean functions.
  Typed scalars, slices as lists, rows of local variables and buffers of the call's own by literal numbers.
-/
namespace Go.PgAM
open Go

mutual
inductive Sc where
  | int (k : IntKind)
  | bool
  | str
  | sl (e : VT)
  | fn (a : VTs) (r : VTs)
inductive VT where
  | sc (s : Sc)
  | ag (cs : Scs)
inductive Scs where
  | nil
  | cons (s : Sc) (r : Scs)
inductive VTs where
  | nil
  | cons (v : VT) (r : VTs)
end

mutual
def Sc.I : Sc → Type
  | .int _ => Int
  | .bool => Bool
  | .str => ByteArray
  | .sl e => List e.I
  | .fn a r => a.I → Option r.I
def VT.I : VT → Type
  | .sc s => s.I
  | .ag cs => cs.I
def Scs.I : Scs → Type
  | .nil => Unit
  | .cons s .nil => s.I
  | .cons s (.cons s' r) => s.I × (Scs.cons s' r).I
def VTs.I : VTs → Type
  | .nil => Unit
  | .cons v .nil => v.I
  | .cons v (.cons v' r) => v.I × (VTs.cons v' r).I
end

mutual
def Sc.dec : (a b : Sc) → Decidable (a = b)
  | .int k, .int k' => if h : k = k' then .isTrue (by rw [h]) else .isFalse (by intro e; cases e; exact h rfl)
  | .bool, .bool => .isTrue rfl
  | .str, .str => .isTrue rfl
  | .sl e, .sl e' => match VT.dec e e' with
    | .isTrue h => .isTrue (by rw [h])
    | .isFalse h => .isFalse (by intro x; cases x; exact h rfl)
  | .fn a r, .fn a' r' => match VTs.dec a a', VTs.dec r r' with
    | .isTrue h, .isTrue g => .isTrue (by rw [h, g])
    | .isFalse h, _ => .isFalse (by intro x; cases x; exact h rfl)
    | _, .isFalse h => .isFalse (by intro x; cases x; exact h rfl)
  | .int _, .bool => .isFalse (by intro e; cases e)
  | .int _, .str => .isFalse (by intro e; cases e)
  | .int _, .sl _ => .isFalse (by intro e; cases e)
  | .int _, .fn _ _ => .isFalse (by intro e; cases e)
  | .bool, .int _ => .isFalse (by intro e; cases e)
  | .bool, .str => .isFalse (by intro e; cases e)
  | .bool, .sl _ => .isFalse (by intro e; cases e)
  | .bool, .fn _ _ => .isFalse (by intro e; cases e)
  | .str, .int _ => .isFalse (by intro e; cases e)
  | .str, .bool => .isFalse (by intro e; cases e)
  | .str, .sl _ => .isFalse (by intro e; cases e)
  | .str, .fn _ _ => .isFalse (by intro e; cases e)
  | .sl _, .int _ => .isFalse (by intro e; cases e)
  | .sl _, .bool => .isFalse (by intro e; cases e)
  | .sl _, .str => .isFalse (by intro e; cases e)
  | .sl _, .fn _ _ => .isFalse (by intro e; cases e)
  | .fn _ _, .int _ => .isFalse (by intro e; cases e)
  | .fn _ _, .bool => .isFalse (by intro e; cases e)
  | .fn _ _, .str => .isFalse (by intro e; cases e)
  | .fn _ _, .sl _ => .isFalse (by intro e; cases e)
def VT.dec : (a b : VT) → Decidable (a = b)
  | .sc s, .sc s' => match Sc.dec s s' with
    | .isTrue h => .isTrue (by rw [h])
    | .isFalse h => .isFalse (by intro x; cases x; exact h rfl)
  | .ag s, .ag s' => match Scs.dec s s' with
    | .isTrue h => .isTrue (by rw [h])
    | .isFalse h => .isFalse (by intro x; cases x; exact h rfl)
  | .sc _, .ag _ => .isFalse (by intro e; cases e)
  | .ag _, .sc _ => .isFalse (by intro e; cases e)
def Scs.dec : (a b : Scs) → Decidable (a = b)
  | .nil, .nil => .isTrue rfl
  | .cons s r, .cons s' r' => match Sc.dec s s', Scs.dec r r' with
    | .isTrue h, .isTrue g => .isTrue (by rw [h, g])
    | .isFalse h, _ => .isFalse (by intro x; cases x; exact h rfl)
    | _, .isFalse h => .isFalse (by intro x; cases x; exact h rfl)
  | .nil, .cons _ _ => .isFalse (by intro e; cases e)
  | .cons _ _, .nil => .isFalse (by intro e; cases e)
def VTs.dec : (a b : VTs) → Decidable (a = b)
  | .nil, .nil => .isTrue rfl
  | .cons s r, .cons s' r' => match VT.dec s s', VTs.dec r r' with
    | .isTrue h, .isTrue g => .isTrue (by rw [h, g])
    | .isFalse h, _ => .isFalse (by intro x; cases x; exact h rfl)
    | _, .isFalse h => .isFalse (by intro x; cases x; exact h rfl)
  | .nil, .cons _ _ => .isFalse (by intro e; cases e)
  | .cons _ _, .nil => .isFalse (by intro e; cases e)
end

/-- A scalar with its type. -/
structure DC where
  s : Sc
  x : s.I

def DC.as (d : DC) (s : Sc) : Option s.I := match Sc.dec d.s s with
  | .isTrue h => some (h ▸ d.x)
  | .isFalse _ => none

def castL (e e' : VT) (xs : List e.I) : Option (List e'.I) := match VT.dec e e' with
  | .isTrue h => some (h ▸ xs)
  | .isFalse _ => none

def Scs.size : Scs → Nat
  | .nil => 0
  | .cons _ r => r.size + 1
def VT.size : VT → Nat
  | .sc _ => 1
  | .ag cs => cs.size

/-- The cells of a value. -/
def Scs.cells : (t : Scs) → t.I → List DC
  | .nil, _ => []
  | .cons s .nil, x => [⟨s, x⟩]
  | .cons s (.cons s' r), x => ⟨s, x.1⟩ :: Scs.cells (.cons s' r) x.2
def VT.cells : (t : VT) → t.I → List DC
  | .sc s, x => [⟨s, x⟩]
  | .ag cs, x => cs.cells x

mutual
def Sc.zero : (s : Sc) → s.I
  | .int _ => (0 : Int)
  | .bool => false
  | .str => ByteArray.empty
  | .sl _ => []
  | .fn _ _ => fun _ => none
def VT.zero : (t : VT) → t.I
  | .sc s => s.zero
  | .ag cs => cs.zero
def Scs.zero : (t : Scs) → t.I
  | .nil => ()
  | .cons s .nil => s.zero
  | .cons s (.cons s' r) => (s.zero, Scs.zero (.cons s' r))
end

mutual
def Sc.hasSl : Sc → Bool
  | .sl _ => true
  | .fn _ _ => true
  | _ => false
def VT.hasSl : VT → Bool
  | .sc s => s.hasSl
  | .ag cs => cs.hasSl
def Scs.hasSl : Scs → Bool
  | .nil => false
  | .cons s r => s.hasSl || r.hasSl
end

mutual
def Sc.noFn : Sc → Bool
  | .sl e => e.noFn
  | .fn _ _ => false
  | _ => true
def VT.noFn : VT → Bool
  | .sc s => s.noFn
  | .ag cs => cs.noFn
def Scs.noFn : Scs → Bool
  | .nil => true
  | .cons s r => s.noFn && r.noFn
end

/-- What the machine knows of a type: its shape, its bytes; of a struct the fields' places and sizes; of an array its length and its elements' size; of a slice the elements' bytes. -/
structure TI where
  vt : VT
  bytes : Nat := 8
  flds : List (Nat × Nat × Bool) := []
  arr : Nat × Nat × Bool := (0, 0, false)
  eb : Nat := 0

inductive AS where
  | d (v : VT)
  | ref (cs : Scs)
  | mv (e : VT)
def AS.I : AS → Type
  | .d v => v.I
  | .ref cs => cs.I
  | .mv e => List e.I
inductive RS where
  | d (v : VT)
  | fresh (e : VT)
def RS.I : RS → Type
  | .d v => v.I
  | .fresh e => List e.I
def RS.hasSl : RS → Bool
  | .d v => v.hasSl
  | .fresh e => e.hasSl
def ASs.I : List AS → Type
  | [] => Unit
  | a :: r => a.I × ASs.I r
def RSs.I : List RS → Type
  | [] => Unit
  | [r] => r.I
  | r :: r' :: rs => r.I × RSs.I (r' :: rs)

/-- A function's contract: what it is handed, what it hands back, and which it is. -/
structure Con where
  as : List AS
  rs : List RS
  f : ASs.I as → Option (RSs.I rs)

abbrev Tab := FuncId → Option Con
def AS.isMv : AS → Bool
  | .mv _ => true
  | _ => false
/-- The functions to which nothing is given away. -/
def Tab.still (C : Tab) : Tab := fun f => match C f with
  | some con => cond (con.as.any AS.isMv) none (some con)
  | none => none

/-- What is known on at a loop's head: temporaries, rows, buffers; and the places whose buffers are given up for plain lists. -/
structure Keep where
  ts : List Nat
  rs : List Nat
  bs : List Nat
  fz : List Nat
  sh : List Nat
  rn : List Nat
  u : Nat

structure Env where
  nt : Nat
  ty : List (TypeId × TI)
  C : Tab
  N : Nat
  keep : List (Nat × Keep)
  shrink : List Nat
  shr : List (Nat × List Nat)
  eqs : List TypeId
  q : Bool := false
  lo : Nat := 0

inductive Cap where
  | loc (slot : Nat)
  | sref (cs : List DC)

inductive PC where
  | d (c : DC)
  | loc (slot off : Nat)
  | sref (cs : List DC)
  | own (tok : Nat)
  | eptr (tok : Nat) (i : Int) (off : Nat) (cs : List DC)
  | fn (f : FuncId) (caps : List Cap)
  | opre (tok : Nat) (hi : Nat)
  | osuf (tok : Nat) (lo : Nat)
  | undef
  | dead

inductive PV where
  | s (p : PC)
  | agg (ps : List PC)
  | tup (vs : List (Bool × List PC))

structure Buf where
  x : Bool
  e : VT
  xs : List e.I

/-- Temporaries, rows of variables, buffers, each by its number: the latest entry counts. -/
structure St where
  t : List (Nat × PV)
  r : List (Nat × Option (List PC))
  b : List (Nat × Buf)

def nth {α : Type} : List α → Nat → Option α
  | [], _ => none
  | a :: _, 0 => some a
  | _ :: l, n + 1 => nth l n
def splice {α : Type} : List α → Nat → List α → Option (List α)
  | l, 0, [] => some l
  | [], 0, _ :: _ => none
  | _ :: l, 0, x :: xs => (splice l 0 xs).map (x :: ·)
  | [], _ + 1, _ => none
  | a :: l, n + 1, xs => (splice l n xs).map (a :: ·)

def look {α : Type} : List (Nat × α) → Nat → Option α
  | [], _ => none
  | (m, a) :: l, n => cond (Nat.beq m n) (some a) (look l n)
def put {α : Type} (l : List (Nat × α)) (n : Nat) (x : α) : List (Nat × α) := (n, x) :: l
def memb : List Nat → Nat → Bool
  | [], _ => false
  | m :: l, n => cond (Nat.beq m n) true (memb l n)

def Env.still (E : Env) : Env := { E with C := E.C.still, q := true }
def Env.tyOf (E : Env) (t : TypeId) : Option TI := look E.ty t
def Env.keepOf (E : Env) (r : Nat) : Keep := (look E.keep r).getD ⟨[], [], [], [], [], [], 0⟩

/-- How many rounds: as many as the whole has, or a few by count. -/
def Env.fuel (E : Env) (K : Keep) : Nat := match K.u with
  | 0 => E.N
  | n + 1 => n + 1
/-- An element by a Go index. -/
def idx {α : Type} (xs : List α) : Int → Option α
  | .ofNat n => xs[n]?
  | .negSucc _ => none

def grd {R : Type} (c : Bool) (k : Option R) : Option R := cond c k none

def St.tmp (st : St) (n : Nat) : PV := (look st.t n).getD (.s .dead)
def St.row (st : St) (n : Nat) : Option (List PC) := (look st.r n).join
def St.setT (st : St) (d : Option Nat) (v : PV) : St := match d with
  | none => st
  | some d => { st with t := (d, v) :: st.t }

def PC.mapD (f : PC → Bool) (p : PC) : PC := cond (f p) .dead p
def PV.mapD (f : PC → Bool) : PV → PV
  | .s p => .s (p.mapD f)
  | .agg ps => .agg (ps.map (PC.mapD f))
  | .tup vs => .tup (vs.map fun v => (v.1, v.2.map (PC.mapD f)))
/-- All that a test names is known no more. -/
def St.kill (st : St) (f : PC → Bool) : St :=
  { st with t := st.t.map fun p => (p.1, p.2.mapD f), r := st.r.map fun p => (p.1, p.2.map (List.map (PC.mapD f))) }

def Cap.isLoc (d : Nat) : Cap → Bool
  | .loc s => Nat.beq s d
  | .sref _ => false
def PC.atLoc (d : Nat) : PC → Bool
  | .loc s _ => Nat.beq s d
  | .fn _ caps => caps.any (Cap.isLoc d)
  | _ => false
def PC.atTok (d : Nat) : PC → Bool
  | .own t => Nat.beq t d
  | .eptr t _ _ _ => Nat.beq t d
  | .osuf t _ => Nat.beq t d
  | .opre t _ => Nat.beq t d
  | _ => false

def PC.ptrTo (d : Nat) : PC → Bool
  | .eptr t _ _ _ => Nat.beq t d
  | _ => false
/-- Is a buffer's number one that a slot's operations give? -/
def tokOf (d t : Nat) : Bool := cond (Nat.beq t d) true (Nat.beq (t / 1000) (d + 1))
def PC.ofDst (d : Nat) : PC → Bool
  | .own t => tokOf d t
  | .eptr t _ _ _ => tokOf d t
  | .osuf t _ => tokOf d t
  | .opre t _ => tokOf d t
  | _ => false
def dropB (d : Nat) : List (Nat × Buf) → List (Nat × Buf)
  | [] => []
  | (t, B) :: l => cond (tokOf d t) (dropB d l) ((t, B) :: dropB d l)
def St.newBuf (st : St) (tok : Nat) (B : Buf) : St :=
  let st' := st.kill (PC.atTok tok)
  { st' with b := put st'.b tok B }

/-- A new variable's cells. -/
def zeroRow (tok : Nat) : Scs → List PC × List (Nat × Buf)
  | .nil => ([], [])
  | .cons (.sl e) r => let q := zeroRow (tok + 1) r; (.own tok :: q.1, (tok, ⟨true, e, []⟩) :: q.2)
  | .cons (.fn _ _) r => let q := zeroRow (tok + 1) r; (.dead :: q.1, q.2)
  | .cons s r => let q := zeroRow (tok + 1) r; (.d ⟨s, s.zero⟩ :: q.1, q.2)
def VT.scs : VT → Scs
  | .sc s => .cons s .nil
  | .ag cs => cs
def newBufs (st : St) : List (Nat × Buf) → St
  | [] => st
  | (t, B) :: l => newBufs (st.newBuf t B) l
def St.newRow (st : St) (d : Nat) (cells : List PC) : St :=
  let st' := st.kill (PC.atLoc d)
  { st' with r := (d, some (cells.map (PC.mapD (PC.atLoc d)))) :: st'.r, t := (d, .s (.loc d 0)) :: st'.t }

def constPV : Value → Option PV
  | .int k n => some (.s (.d ⟨.int k, n⟩))
  | .bool b => some (.s (.d ⟨.bool, b⟩))
  | .string s => some (.s (.d ⟨.str, s⟩))
  | _ => none
def opv (st : St) : Operand → Option PV
  | .tmp t => some (st.tmp t)
  | .const v => constPV v
  | .func f => some (.s (.fn f []))
  | .global _ => none
def opc (st : St) (o : Operand) : Option PC := match opv st o with
  | some (.s p) => some p
  | _ => none

def ScsofDC : (t : Scs) → List DC → Option t.I
  | .nil, _ => some ()
  | .cons s .nil, c :: _ => c.as s
  | .cons s (.cons s' r), c :: l => match c.as s, ScsofDC (.cons s' r) l with
    | some a, some b => some (a, b)
    | _, _ => none
  | .cons _ _, [] => none

mutual
def encVT : (v : VT) → v.I → PV
  | .sc s, x => .s (.d ⟨s, x⟩)
  | .ag cs, x => .agg ((cs.cells x).map .d)
end
def encVTs : (vs : VTs) → vs.I → List PV
  | .nil, _ => []
  | .cons v .nil, x => [encVT v x]
  | .cons v (.cons v' r), x => encVT v x.1 :: encVTs (.cons v' r) x.2

def RS.toVT : (r : RS) → r.I → (v : VT) → Option v.I
  | .d w, x, v => match VT.dec w v with
    | .isTrue h => some (h ▸ x)
    | .isFalse _ => none
  | .fresh e, x, v => match VT.dec (.sc (.sl e)) v with
    | .isTrue h => some (h ▸ (show (VT.sc (.sl e)).I from x))
    | .isFalse _ => none
def RSs.toVTs : (rs : List RS) → RSs.I rs → (vs : VTs) → Option vs.I
  | [], _, .nil => some ()
  | [r], x, .cons v .nil => r.toVT x v
  | r :: r' :: rs, x, .cons v (.cons v' vs) => match r.toVT x.1 v, RSs.toVTs (r' :: rs) x.2 (.cons v' vs) with
    | some a, some b => some (a, b)
    | _, _ => none
  | _, _, _ => none

def capPV : Cap → PV
  | .loc s => .s (.loc s 0)
  | .sref cs => .s (.sref cs)

/-- A scalar as one of a type that is no function's. -/
def toSc0 (st : St) (s : Sc) : PC → Option s.I
  | .d c => c.as s
  | .own tok => match look st.b tok with
    | some B => DC.as ⟨.sl B.e, B.xs⟩ s
    | none => none
  | _ => none
def ofPCs0 (st : St) : (t : Scs) → List PC → Option t.I
  | .nil, _ => some ()
  | .cons s .nil, c :: _ => toSc0 st s c
  | .cons s (.cons s' r), c :: l => match toSc0 st s c, ofPCs0 st (.cons s' r) l with
    | some a, some b => some (a, b)
    | _, _ => none
  | .cons _ _, [] => none
def decArg0 (st : St) : (a : AS) → PV → Option a.I
  | .d (.sc s), .s p => toSc0 st s p
  | .d (.ag cs), .agg ps => cond (Nat.beq ps.length cs.size) (ofPCs0 st cs ps) none
  | .ref cs, .s (.sref l) => ScsofDC cs l
  | .ref cs, .s (.eptr _ _ _ l) => ScsofDC cs l
  | .ref cs, .s (.loc r off) => match st.row r with
    | some cells => ofPCs0 st cs (cells.drop off)
    | none => none
  | _, _ => none
def decArgs0 (st : St) : (as : List AS) → List PV → Option (ASs.I as)
  | [], [] => some ()
  | a :: as, v :: vs => match decArg0 st a v, decArgs0 st as vs with
    | some x, some y => some (x, y)
    | _, _ => none
  | _, _ => none

/-- A function's literal, with what it has captured, as a Lean function. -/
def cloFn (C : Tab) (st : St) (F : FuncId) (caps : List Cap) (a r : VTs) : a.I → Option r.I := fun x =>
  match C F with
  | none => none
  | some con => match decArgs0 st con.as (encVTs a x ++ caps.map capPV) with
    | none => none
    | some z => (con.f z).bind fun y => RSs.toVTs con.rs y r

def toSc (C : Tab) (st : St) : (s : Sc) → PC → Option s.I
  | .fn a r, .fn F caps => some (cloFn C st F caps a r)
  | s, p => toSc0 st s p
def ofPCs (C : Tab) (st : St) : (t : Scs) → List PC → Option t.I
  | .nil, _ => some ()
  | .cons s .nil, c :: _ => toSc C st s c
  | .cons s (.cons s' r), c :: l => match toSc C st s c, ofPCs C st (.cons s' r) l with
    | some a, some b => some (a, b)
    | _, _ => none
  | .cons _ _, [] => none
def toVT (C : Tab) (st : St) : (v : VT) → PV → Option v.I
  | .sc s, .s p => toSc C st s p
  | .ag cs, .agg ps => cond (Nat.beq ps.length cs.size) (ofPCs C st cs ps) none
  | _, _ => none
def toVTs (C : Tab) (st : St) : (vs : VTs) → List PV → Option vs.I
  | .nil, [] => some ()
  | .cons v .nil, [p] => toVT C st v p
  | .cons v (.cons v' r), p :: ps => match toVT C st v p, toVTs C st (.cons v' r) ps with
    | some a, some b => some (a, b)
    | _, _ => none
  | _, _ => none

def decArg (C : Tab) (st : St) : (a : AS) → PV → Option a.I
  | .d v, p => toVT C st v p
  | .ref cs, .s (.sref l) => ScsofDC cs l
  | .ref cs, .s (.eptr _ _ _ l) => ScsofDC cs l
  | .ref cs, .s (.loc r off) => match st.row r with
    | some cells => ofPCs0 st cs (cells.drop off)
    | none => none
  | .mv e, .s (.own tok) => match look st.b tok with
    | some ⟨true, e', xs⟩ => castL e' e xs
    | _ => none
  | _, _ => none
def decArgs (C : Tab) (st : St) : (as : List AS) → List PV → Option (ASs.I as)
  | [], [] => some ()
  | a :: as, v :: vs => match decArg C st a v, decArgs C st as vs with
    | some x, some y => some (x, y)
    | _, _ => none
  | _, _ => none

/-- The buffers that a call is shown: they may be handed back in parts. -/
def PC.toks (st : St) : PC → List Nat
  | .own t => [t]
  | .loc r _ => ((st.row r).getD []).flatMap fun | .own t => [t] | _ => []
  | .fn _ caps => caps.flatMap fun
    | .loc r => ((st.row r).getD []).flatMap fun | .own t => [t] | _ => []
    | .sref _ => []
  | _ => []
def PV.toks (st : St) : PV → List Nat
  | .s p => p.toks st
  | .agg ps => ps.flatMap (PC.toks st)
  | .tup _ => []
def St.share (st : St) : List Nat → St
  | [] => st
  | t :: ts => St.share (match look st.b t with
    | some B => { st with b := put st.b t { B with x := false } }
    | none => st) ts
def dropTok (tok : Nat) : List (Nat × Buf) → List (Nat × Buf)
  | [] => []
  | (t, B) :: l => cond (Nat.beq t tok) (dropTok tok l) ((t, B) :: dropTok tok l)
def mvTok : AS → PV → Option Nat
  | .mv _, .s (.own tok) => some tok
  | _, _ => none
def St.give (st : St) (tok : Nat) : St := let st1 := st.kill (PC.atTok tok)
  { st1 with b := dropTok tok st1.b }
def St.moved (st : St) : List AS → List PV → St
  | a :: as, v :: vs => St.moved (match mvTok a v with | some tok => st.give tok | none => st) as vs
  | _, _ => st

def mvToks : List AS → List PV → List Nat
  | a :: as, v :: vs => (mvTok a v).toList ++ mvToks as vs
  | _, _ => []
def keptToks (st : St) : List AS → List PV → List Nat
  | a :: as, v :: vs => (match mvTok a v with | some _ => [] | none => v.toks st) ++ keptToks st as vs
  | _, _ => []
def PV.ptrs : PV → List Nat
  | .s (.eptr t _ _ _) => [t]
  | _ => []
/-- What is given away is given once, and shown nowhere else. -/
def apartB (ts : List Nat) : List Nat → Bool
  | [] => true
  | m :: ms => cond (memb ts m) false (cond (memb ms m) false (apartB ts ms))
def RS.val (d : Nat) : (r : RS) → r.I → (Bool × List PC) × List (Nat × Buf)
  | .d (.sc s), x => ((false, [.d ⟨s, x⟩]), [])
  | .d (.ag cs), x => ((true, (cs.cells x).map .d), [])
  | .fresh e, x => ((false, [.own d]), [(d, ⟨true, e, x⟩)])
def RSs.vals (d : Nat) : (rs : List RS) → RSs.I rs → List (Bool × List PC) × List (Nat × Buf)
  | [], _ => ([], [])
  | [r], x => let q := r.val d x; ([q.1], q.2)
  | r :: r' :: rs, x => let q := r.val d x.1; let p := RSs.vals (d + 1) (r' :: rs) x.2; (q.1 :: p.1, q.2 ++ p.2)
def packPV : List (Bool × List PC) → PV
  | [(false, [p])] => .s p
  | [(true, ps)] => .agg ps
  | vs => .tup vs
def RSs.tok (d : Nat) : List RS → Nat
  | [_] => d
  | _ => 1000 * (d + 1) + 500

def St.results (st : St) (dst : Option Nat) (rs : List RS) (y : RSs.I rs) : St := match dst with
  | none => st
  | some d => let q := RSs.vals (RSs.tok d rs) rs y
    (newBufs st q.2).setT (some d) (packPV q.1)

def callCon {R : Type} (E : Env) (con : Con) (args : List PV) (dst : Option Nat) (st : St) (k : St → Option R) : Option R :=
  match decArgs E.C st con.as args with
  | none => none
  | some z =>
    let ts := keptToks st con.as args
    let ms := mvToks con.as args
    cond (apartB (args.flatMap PV.ptrs ++ ts) ms && Nat.blt con.rs.length 400)
      (let st1 := cond (con.rs.any RS.hasSl) (st.share ts) st
       let st2 := st1.moved con.as args
       (con.f z).bind fun y => k (st2.results dst con.rs y)) none

def VTs.vals (d : Nat) : (vs : VTs) → vs.I → List (Bool × List PC)
  | .nil, _ => []
  | .cons (.sc s) .nil, x => [(false, [.d ⟨s, x⟩])]
  | .cons (.ag cs) .nil, x => [(true, (cs.cells x).map .d)]
  | .cons (.sc s) (.cons v' r), x => (false, [.d ⟨s, x.1⟩]) :: VTs.vals d (.cons v' r) x.2
  | .cons (.ag cs) (.cons v' r), x => (true, (cs.cells x.1).map .d) :: VTs.vals d (.cons v' r) x.2
def VTs.hasSl : VTs → Bool
  | .nil => false
  | .cons v r => v.hasSl || r.hasSl

def opvs (st : St) : List Operand → Option (List PV)
  | [] => some []
  | o :: l => match opv st o, opvs st l with
    | some v, some vs => some (v :: vs)
    | _, _ => none
/-- A call's arguments; a literal nil slice by its type. -/
def argPV (E : Env) (st : St) (o : Operand) (t : TypeId) : Option PV := match o with
  | .const (.slice none 0 0) => match E.tyOf t with
    | some ti => match ti.vt with
      | .sc (.sl e) => some (.s (.d ⟨.sl e, []⟩))
      | _ => none
    | none => none
  | o => opv st o
def argPVs (E : Env) (st : St) : List Operand → List TypeId → Option (List PV)
  | [], _ => some []
  | o :: l, t :: ts => match argPV E st o t, argPVs E st l ts with
    | some v, some vs => some (v :: vs)
    | _, _ => none
  | _ :: _, [] => none

def b_and (k : IntKind) (x y : Int) : Int := k.wrap (BitVec.toNat (BitVec.ofInt k.bits x &&& BitVec.ofInt k.bits y))
def b_or (k : IntKind) (x y : Int) : Int := k.wrap (BitVec.toNat (BitVec.ofInt k.bits x ||| BitVec.ofInt k.bits y))
def b_xor (k : IntKind) (x y : Int) : Int := k.wrap (BitVec.toNat (BitVec.ofInt k.bits x ^^^ BitVec.ofInt k.bits y))
def b_andNot (k : IntKind) (x y : Int) : Int := k.wrap (BitVec.toNat (BitVec.ofInt k.bits x &&& ~~~(BitVec.ofInt k.bits y)))
def b_not (k : IntKind) (x : Int) : Int := k.wrap (BitVec.toNat (BitVec.ofInt k.bits (if k.signed then -1 else k.max) ^^^ BitVec.ofInt k.bits x))
def b_shl (k : IntKind) (x y : Int) : Int := k.wrap (x * 2 ^ (min y.toNat k.bits))
def b_shr (k : IntKind) (x y : Int) : Int := x.fdiv (2 ^ (min y.toNat k.bits))
abbrev w_i64 (x : Int) : Int := IntKind.wrap .i64 x
abbrev w_u64 (x : Int) : Int := IntKind.wrap .u64 x
abbrev w_i32 (x : Int) : Int := IntKind.wrap .i32 x
abbrev w_u32 (x : Int) : Int := IntKind.wrap .u32 x
abbrev w_u8 (x : Int) : Int := IntKind.wrap .u8 x
def PV.i (k : IntKind) (x : Int) : PV := .s (.d ⟨.int k, x⟩)
def PV.bo (b : Bool) : PV := .s (.d ⟨.bool, b⟩)

def binInt {R : Type} (op : BinOp) (k k' : IntKind) (x y : Int) (ret : PV → Option R) : Option R :=
  match op with
  | .shl => grd (decide (0 ≤ y)) (ret (.i k (b_shl k x y)))
  | .shr => grd (decide (0 ≤ y)) (ret (.i k (b_shr k x y)))
  | op => cond (decide (k = k')) (match op with
    | .quo => cond (y == 0) none (ret (.i k (k.wrap (x.tdiv y))))
    | .rem => cond (y == 0) none (ret (.i k (x.tmod y)))
    | .add => ret (.i k (k.wrap (x + y)))
    | .sub => ret (.i k (k.wrap (x - y)))
    | .mul => ret (.i k (k.wrap (x * y)))
    | .and => ret (.i k (b_and k x y))
    | .or => ret (.i k (b_or k x y))
    | .xor => ret (.i k (b_xor k x y))
    | .andNot => ret (.i k (b_andNot k x y))
    | .eql => ret (.bo (x == y))
    | .neq => ret (.bo (x != y))
    | .lss => ret (.bo (decide (x < y)))
    | .leq => ret (.bo (decide (x ≤ y)))
    | .gtr => ret (.bo (decide (x > y)))
    | .geq => ret (.bo (decide (x ≥ y)))
    | _ => none) none
def binStr {R : Type} (op : BinOp) (x y : ByteArray) (ret : PV → Option R) : Option R := match op with
  | .eql => ret (.bo (x.toList == y.toList))
  | .neq => ret (.bo (!(x.toList == y.toList)))
  | .add => grd (decide (x.size + y.size ≤ 9223372036854775807)) (ret (.s (.d ⟨.str, x ++ y⟩)))
  | _ => none
def binBool {R : Type} (op : BinOp) (x y : Bool) (ret : PV → Option R) : Option R := match op with
  | .eql => ret (.bo (x == y))
  | .neq => ret (.bo (!(x == y)))
  | _ => none
def eqI (x y : Int) (b : Bool) : Bool := cond (x == y) b false
def eqB (x y : Bool) (b : Bool) : Bool := cond (x == y) b false
/-- Are cells the same? -/
def flatEq : Scs → List PC → List PC → Option Bool
  | .nil, [], [] => some true
  | .cons (.int k) r, .d ⟨.int k1, x⟩ :: l, .d ⟨.int k2, y⟩ :: m => cond (decide (k1 = k) && decide (k2 = k)) (match flatEq r l m with
    | some b => some (eqI x y b)
    | none => none) none
  | .cons .bool r, .d ⟨.bool, x⟩ :: l, .d ⟨.bool, y⟩ :: m => match flatEq r l m with
    | some b => some (eqB x y b)
    | none => none
  | _, _, _ => none

def binStep {R : Type} (E : Env) (op : BinOp) (T : TypeId) (a b : PV) (k : PV → Option R) : Option R :=
  match a, b with
  | .s (.d ⟨.int kd, x⟩), .s (.d ⟨.int kd', y⟩) => binInt op kd kd' x y k
  | .s (.d ⟨.str, x⟩), .s (.d ⟨.str, y⟩) => binStr op x y k
  | .s (.d ⟨.bool, x⟩), .s (.d ⟨.bool, y⟩) => match E.tyOf T with
    | some ti => match ti.vt with
      | .sc .bool => binBool op x y k
      | _ => none
    | none => none
  | .agg ps, .agg qs => cond (memb E.eqs T) (match E.tyOf T with
    | some ti => match ti.vt with
      | .ag cs => match op, flatEq cs ps qs with
        | .eql, some c => k (.bo c)
        | .neq, some c => k (.bo (!c))
        | _, _ => none
      | _ => none
    | none => none) none
  | _, _ => none

def fillCells : List PC → List (Nat × List PC) → Option (List PC)
  | l, [] => some l
  | l, (o, cs) :: r => match splice l o cs with
    | some l' => fillCells l' r
    | none => none
def PV.cells : PV → Option (List PC)
  | .s .dead => none
  | .s .undef => none
  | .s p => some [p]
  | .agg ps => some ps
  | .tup _ => none
def TI.place (ti : TI) (i : Nat) : Option (Nat × Nat) := match ti.flds with
  | [] => cond (Nat.blt i ti.arr.1) (some (i * ti.arr.2.1, ti.arr.2.1)) none
  | l => (nth l i).map fun f => (f.1, f.2.1)
def partCells (st : St) (ti : TI) : List (Nat × Operand) → Option (List (Nat × List PC))
  | [] => some []
  | (i, o) :: r => match opv st o, ti.place i, partCells st ti r with
    | some v, some p, some q => match v.cells with
      | some cs => cond (Nat.beq cs.length p.2) (some ((p.1, cs) :: q)) none
      | none => none
    | _, _, _ => none
def zeroD : Scs → List PC
  | .nil => []
  | .cons (.fn _ _) r => .dead :: zeroD r
  | .cons s r => .d ⟨s, s.zero⟩ :: zeroD r

/-- A row of elements that a slice's literal names, in order. -/
def litElems (E : Env) (st : St) (e : VT) : Nat → List (Nat × Operand) → Option (List e.I)
  | _, [] => some []
  | n, (i, o) :: r => cond (Nat.beq i n) (match opv st o with
    | some v => match toVT E.C st e v, litElems E st e (n + 1) r with
      | some x, some l => some (x :: l)
      | _, _ => none
    | none => none) none
def litToks (st : St) : List (Nat × Operand) → List Nat
  | [] => []
  | (_, o) :: r => (match opv st o with | some v => v.toks st | none => []) ++ litToks st r

def loadCells (ag : Bool) (size : Nat) (cs : List PC) : Option PV := match ag, cs with
  | true, l => cond (Nat.ble size l.length) (some (.agg (l.take size))) none
  | false, c :: _ => some (.s c)
  | false, [] => none
def VT.isAg : VT → Bool
  | .sc _ => false
  | .ag _ => true

def caps (st : St) : List Operand → Option (List Cap)
  | [] => some []
  | o :: l => match opc st o, caps st l with
    | some (.loc s 0), some r => some (.loc s :: r)
    | some (.sref cs), some r => some (.sref cs :: r)
    | _, _ => none

def oInt (st : St) (o : Operand) : Option Int := match opc st o with
  | some (.d ⟨.int _, x⟩) => some x
  | _ => none

def maxI (x y : Int) : Int := if y > x then y else x
def minI (x y : Int) : Int := if y < x then y else x
def foldI (f : Int → Int → Int) (k : IntKind) : Int → List PV → Option Int
  | x, [] => some x
  | x, .s (.d ⟨.int k', y⟩) :: l => cond (decide (k = k')) (foldI f k (f x y) l) none
  | _, _ => none

def room : Nat := 140737488355328

/-- What is appended. -/
def appSrc (st : St) (tok : Nat) (e : VT) : PV → Option (List e.I)
  | .s (.d c) => c.as (.sl e)
  | .s (.own t) => cond (Nat.beq t tok) none (match look st.b t with
    | some B => castL B.e e B.xs
    | none => none)
  | .s (.osuf t lo) => cond (Nat.beq t tok) none (match look st.b t with
    | some B => match castL B.e e B.xs with
      | some xs => some (xs.drop lo)
      | none => none
    | none => none)
  | .s (.opre t hi) => cond (Nat.beq t tok) none (match look st.b t with
    | some B => match castL B.e e B.xs with
      | some xs => some (xs.take hi)
      | none => none
    | none => none)
  | _ => none
def preOf {α : Type} : Option Nat → List α → List α
  | none, xs => xs
  | some n, xs => xs.take n
def preX : Option Nat → Bool → Bool
  | none, _ => true
  | some _, x => x
def appTok : PV → Option (Nat × Option Nat)
  | .s (.own tok) => some (tok, none)
  | .s (.opre tok hi) => some (tok, some hi)
  | _ => none
def appendStep {R : Type} (E : Env) (T : TypeId) (d : Nat) (a b : PV) (st : St) (k : St → Option R) : Option R :=
  match appTok a, E.tyOf T with
  | some (tok, hi), some ti => match look st.b tok with
    | some ⟨x, e, xs⟩ => match appSrc st tok e b, ti.vt with
      | some ys, .sc (.sl e') => cond (Nat.beq e'.size e.size && Nat.ble 1 e.size && Nat.ble 1 ti.eb)
        (let xs' := preOf hi xs
        cond (preX hi x)
        (grd (decide ((xs'.length + ys.length) * ti.eb ≤ room))
          (let st1 := st.kill (PC.atTok tok)
           k ({ st1 with b := put st1.b tok ⟨x, e, xs' ++ ys⟩ }.setT (some d) (.s (.own tok))))) none) none
      | _, _ => none
    | none => none
  | _, _ => none

/-- Is the first type a slice's with elements of so many cells, or a string's? -/
def slTy (E : Env) (ts : List TypeId) (n : Nat) : Bool := match ts with
  | t :: _ => match E.tyOf t with
    | some ti => match ti.vt with
      | .sc (.sl e) => Nat.beq e.size n
      | _ => false
    | none => false
  | [] => false
def slTyE (E : Env) (ts : List TypeId) (e : VT) : Bool := match ts with
  | t :: _ => match E.tyOf t with
    | some ti => match ti.vt with
      | .sc (.sl e') => match VT.dec e' e with
        | .isTrue _ => true
        | .isFalse _ => false
      | _ => false
    | none => false
  | [] => false
def strTy (E : Env) (ts : List TypeId) : Bool := match ts with
  | t :: _ => match E.tyOf t with
    | some ti => match ti.vt with
      | .sc .str => true
      | _ => false
    | none => false
  | [] => false
def builtinStep {R : Type} (E : Env) (b : Builtin) (args : List PV) (ts : List TypeId) (dst : Option Nat) (st : St) (k : St → Option R) : Option R :=
  match b, args, dst with
  | .len, [.s (.d ⟨.sl e, xs⟩)], _ => match slTy E ts e.size with
    | true => k (st.setT dst (.s (.d ⟨.int .i64, ((List.length xs : Nat) : Int)⟩)))
    | false => none
  | .len, [.s (.d ⟨.str, s⟩)], _ => match strTy E ts with
    | true => k (st.setT dst (.s (.d ⟨.int .i64, ((ByteArray.size s : Nat) : Int)⟩)))
    | false => none
  | .len, [.s (.own tok)], _ => match look st.b tok with
    | some B => match slTy E ts B.e.size with
      | true => k (st.setT dst (.s (.d ⟨.int .i64, ((List.length B.xs : Nat) : Int)⟩)))
      | false => none
    | none => none
  | .max, .s (.d ⟨.int kd, x⟩) :: l, _ => match foldI maxI kd x l with
    | some y => k (st.setT dst (.s (.d ⟨.int kd, y⟩)))
    | none => none
  | .min, .s (.d ⟨.int kd, x⟩) :: l, _ => match foldI minI kd x l with
    | some y => k (st.setT dst (.s (.d ⟨.int kd, y⟩)))
    | none => none
  | .clear, [.s (.osuf tok lo)], none => match look st.b tok with
    | some ⟨true, e, xs⟩ => match slTyE E ts e && e.noFn && Nat.ble 1 e.size with
      | true => let st1 := st.kill (PC.ptrTo tok)
        k { st1 with b := put st1.b tok ⟨true, e, xs.take lo ++ List.replicate (xs.length - lo) e.zero⟩ }
      | false => none
    | _ => none
  | .append, [a, b], some d => match ts with
    | t :: t' :: _ => match E.tyOf t' with
      | some ti' => match ti'.vt with
        | .sc (.sl _) => appendStep E t d a b st k
        | _ => none
      | none => none
    | _ => none
  | _, _, _ => none

def storeElem {R : Type} (E : Env) (tok : Nat) (i : Int) (size : Nat) (v : PV) (st : St) (k : St → Option R) : Option R :=
  match look st.b tok with
  | some ⟨true, e, xs⟩ => match toVT E.C st e v with
    | some x => cond (Nat.beq size e.size && e.noFn && !memb (v.toks st) tok)
        (let st1 := (st.share (v.toks st)).kill (PC.ptrTo tok)
         k { st1 with b := put st1.b tok ⟨true, e, xs.set i.toNat x⟩ }) none
    | none => none
  | _ => none

/-- An array's index, one by one. -/
def splitIdx {R : Type} (i : Int) : Nat → Nat → (Nat → Option R) → Option R
  | 0, _, _ => none
  | n + 1, j, f => cond (i == ((j : Nat) : Int)) (f j) (splitIdx i n (j + 1) f)

def step1 {R : Type} (E : Env) (o : Oper) (st : St) (k : St → Option R) : Option R :=
  let ret (v : Option PV) : Option R := match v with | some v => k (st.setT o.dst v) | none => none
  match o.op with
  | .move (.const (.slice none 0 0)) | .assign (.const (.slice none 0 0)) => match o.dst, E.tyOf o.type with
    | some d, some ti => match ti.vt with
      | .sc (.sl e) => k ((st.newBuf d ⟨true, e, []⟩).setT (some d) (.s (.own d)))
      | _ => none
    | _, _ => none
  | .move x => ret (opv st x)
  | .assign x => match opv st x with
    | some (.s (.opre tok hi)) => match look st.b tok, o.dst, E.q with
      | some ⟨true, e, xs⟩, some d, false => let st1 := st.kill (PC.atTok tok)
        k ({ st1 with b := put st1.b tok ⟨true, e, xs.take hi⟩ }.setT (some d) (.s (.own tok)))
      | _, _, _ => none
    | v => ret v
  | .pick c a b => match opc st c, opc st a, opc st b with
    | some (.d ⟨.bool, c⟩), some (.d ⟨.bool, x⟩), some (.d ⟨.bool, y⟩) => k (st.setT o.dst (.s (.d ⟨.bool, cond c x y⟩)))
    | _, _, _ => none
  | .alloc T => match o.dst, E.tyOf T with
    | some d, some ti => let q := zeroRow (1000 * (d + 1)) ti.vt.scs
      cond (Nat.blt ti.vt.size 400) (k ((newBufs st q.2).newRow d q.1)) none
    | _, _ => none
  | .box T v => match o.dst, E.tyOf T, opv st v with
    | some d, some ti, some v => match v.cells with
      | some cs => cond (Nat.beq cs.length ti.vt.size) (k (st.newRow d cs)) none
      | none => none
    | _, _, _ => none
  | .build T parts => match E.tyOf T with
    | some ti => match ti.vt, partCells st ti parts.toList with
      | .ag cs, some ps => ret ((fillCells (zeroD cs) ps).map .agg)
      | _, _ => none
    | none => none
  | .buildSlice T n parts => match o.dst, E.tyOf T with
    | some d, some ti => match ti.vt with
      | .sc (.sl e) => match litElems E st e 0 parts.toList with
        | some xs => cond (Nat.beq n parts.size && Nat.ble (n * e.size) 16777216 && Nat.ble 1 e.size && e.noFn)
            (k (((St.share st (litToks st parts.toList)).newBuf d ⟨true, e, xs⟩).setT (some d) (.s (.own d)))) none
        | none => none
      | _ => none
    | _, _ => none
  | .load T a => match E.tyOf T, opc st a with
    | some ti, some (.loc r off) => match st.row r with
      | some cs => ret (loadCells ti.vt.isAg ti.vt.size (cs.drop off))
      | none => none
    | some ti, some (.sref cs) => ret (loadCells ti.vt.isAg ti.vt.size (cs.map .d))
    | some ti, some (.eptr _ _ _ cs) => ret (loadCells ti.vt.isAg ti.vt.size (cs.map .d))
    | _, _ => none
  | .store T a v => match o.dst with
   | some _ => none
   | none => match E.tyOf T, opc st a, opv st v with
    | some ti, some (.loc r off), some v => match st.row r, v.cells with
      | some cs, some ps => cond (Nat.beq ps.length ti.vt.size) (match splice cs off ps with
        | some cs' => k { st with r := (r, some cs') :: st.r }
        | none => none) none
      | _, _ => none
    | some ti, some (.eptr tok i 0 _), some v => storeElem E tok i ti.vt.size v st k
    | _, _, _ => none
  | .nilCheck x => match opc st x with
    | some (.loc s n) => ret (some (.s (.loc s n)))
    | some (.sref cs) => ret (some (.s (.sref cs)))
    | some (.eptr t i n cs) => ret (some (.s (.eptr t i n cs)))
    | _ => none
  | .binOp op T x y _ => match opv st x, opv st y with
    | some a, some b => binStep E op T a b fun v => k (st.setT o.dst v)
    | _, _ => none
  | .unOp .not _ x => match opc st x with
    | some (.d ⟨.bool, b⟩) => k (st.setT o.dst (.s (.d ⟨.bool, !b⟩)))
    | _ => none
  | .unOp .neg _ x => match opc st x with
    | some (.d ⟨.int kd, n⟩) => k (st.setT o.dst (.i kd (kd.wrap (0 - (show Int from n)))))
    | _ => none
  | .unOp .xor _ x => match opc st x with
    | some (.d ⟨.int kd, n⟩) => k (st.setT o.dst (.i kd (b_not kd n)))
    | _ => none
  | .convert src dst x => match E.tyOf dst, E.tyOf src, opc st x with
    | some ti, some _, some (.d ⟨.int _, n⟩) => match ti.vt with
      | .sc (.int kd) => k (st.setT o.dst (.s (.d ⟨.int kd, kd.wrap n⟩)))
      | _ => none
    | _, _, _ => none
  | .makeFunc (.func f) first cs => cond (Nat.beq first.size 0) (match caps st cs.toList with
    | some l => ret (some (.s (.fn f l)))
    | none => none) none
  | .call c => match argPVs E st c.args.toList c.argTypes.toList with
    | none => none
    | some args => match c.callee with
      | .builtin b => builtinStep E b args c.argTypes.toList o.dst st k
      | .value f => match opc st f with
        | some (.fn F cs) => match E.C F with
          | some con => callCon E con (args ++ cs.map capPV) o.dst st k
          | none => none
        | some (.d ⟨.fn a r, φ⟩) => match toVTs E.C st a args with
          | some z =>
            let st1 := cond r.hasSl (st.share (args.flatMap (PV.toks st))) st
            (φ z).bind fun y => k (st1.setT o.dst (packPV (VTs.vals 0 r y)))
          | none => none
        | _ => none
      | _ => none
  | .extract t i => match opv st t with
    | some (.tup vs) => match nth vs i with
      | some (false, [p]) => ret (some (.s p))
      | some (true, ps) => ret (some (.agg ps))
      | _ => none
    | _ => none
  | .slice T x lo hi mx => match E.tyOf T, opc st x with
    | some ti, some p => match ti.vt, (match p with
        | .d ⟨.sl e, xs⟩ => some (⟨e, xs, none⟩ : (e : VT) × (_ : List e.I) × Option Nat)
        | .own tok => match look st.b tok with
          | some B => some ⟨B.e, B.xs, some tok⟩
          | none => none
        | _ => none) with
      | .sc (.sl e'), some ⟨e, xs, ot⟩ => match Nat.beq e'.size e.size with
       | false => none
       | true =>
        match (match hi with | none => some ((List.length xs : Nat) : Int) | some h => oInt st h), (match lo with | none => some 0 | some l => oInt st l), mx with
        | some h, some l, none =>
          grd (decide (0 ≤ l)) (grd (decide (l ≤ h)) (grd (decide (h ≤ ((List.length xs : Nat) : Int)))
            (match ot, memb E.shrink (o.dst.getD 0), lo, hi with
              | some tok, true, none, _ => k (st.setT o.dst (.s (.opre tok h.toNat)))
              | some tok, true, some _, none => k (st.setT o.dst (.s (.osuf tok l.toNat)))
              | some _, true, some _, some _ => none
              | some tok, false, _, _ => k ((st.share [tok]).setT o.dst (.s (.d ⟨.sl e, (xs.take h.toNat).drop l.toNat⟩)))
              | none, _, _, _ => k (st.setT o.dst (.s (.d ⟨.sl e, (xs.take h.toNat).drop l.toNat⟩))))))
        | some h, some l, some m => match oInt st m, o.dst, hi with
          | some m, some _, some _ => grd (decide (0 ≤ l)) (grd (decide (l ≤ h)) (grd (decide (h ≤ m)) (grd (decide (m ≤ ((List.length xs : Nat) : Int)))
              (match ot with
                | some tok => k ((st.share [tok]).setT o.dst (.s (.d ⟨.sl e, (xs.take h.toNat).drop l.toNat⟩)))
                | none => k (st.setT o.dst (.s (.d ⟨.sl e, (xs.take h.toNat).drop l.toNat⟩)))))))
          | _, _, _ => none
        | _, _, _ => none
      | _, _ => none
    | _, _ => none
  | .fieldAddr T x f => match E.tyOf T, opc st x with
    | some ti, some p => match nth ti.flds f with
      | some (off, _ + 1, _) => match p with
        | .loc r o' => ret (some (.s (.loc r (o' + off))))
        | .sref cs => match Nat.ble off cs.length with
          | true => ret (some (.s (.sref (cs.drop off))))
          | false => none
        | .eptr t i o' cs => match Nat.ble off cs.length with
          | true => ret (some (.s (.eptr t i (o' + off) (cs.drop off))))
          | false => none
        | _ => none
      | _ => none
    | _, _ => none
  | .field T x f => match E.tyOf T, opv st x with
    | some ti, some (.agg ps) => match nth ti.flds f with
      | some (off, n, ag) => ret (loadCells ag n (ps.drop off))
      | _ => none
    | _, _ => none
  | .indexAddr T x i => match E.tyOf T, opc st x, oInt st i with
    | some ti, some (.d ⟨.sl e, xs⟩), some i => match ti.vt with
      | .sc (.sl e') => match Nat.beq e'.size e.size with
        | true => (idx xs i).bind fun y => k (st.setT o.dst (.s (.sref (e.cells y))))
        | false => none
      | _ => none
    | some ti, some (.own tok), some i => match ti.vt, look st.b tok with
      | .sc (.sl e'), some B => match Nat.beq e'.size B.e.size with
        | true => (idx B.xs i).bind fun y => k (st.setT o.dst (.s (.eptr tok i 0 (B.e.cells y))))
        | false => none
      | _, _ => none
    | some ti, some p, some i => match ti.arr with
      | (n, m + 1, _) => splitIdx i n 0 fun j => match p with
        | .loc r off => ret (some (.s (.loc r (off + j * (m + 1)))))
        | .sref cs => match Nat.ble (j * (m + 1)) cs.length with
          | true => ret (some (.s (.sref (cs.drop (j * (m + 1))))))
          | false => none
        | _ => none
      | _ => none
    | _, _, _ => none
  | .index T x i => match E.tyOf T, opv st x, oInt st i with
    | some ti, some (.agg ps), some i => splitIdx i ti.arr.1 0 fun j => ret (loadCells ti.arr.2.2 ti.arr.2.1 (ps.drop (j * ti.arr.2.1)))
    | some ti, some (.s (.d ⟨.str, s⟩)), some i => match ti.vt with
      | .sc .str => (idx s.data.toList i).bind fun c => k (st.setT o.dst (.i .u8 ((UInt8.toNat c : Nat) : Int)))
      | _ => none
    | _, _, _ => none
  | .makeSlice T l c => match o.dst, E.tyOf T, oInt st l, oInt st c with
    | some d, some ti, some n, some m => match ti.vt with
      | .sc (.sl e) => match Nat.ble 1 ti.eb && Nat.ble 1 e.size && e.noFn with
        | true => grd (decide (0 ≤ n)) (grd (n == m) (grd (decide (n.toNat * ti.eb ≤ room))
          (k ((st.newBuf d ⟨true, e, List.replicate n.toNat e.zero⟩).setT (some d) (.s (.own d))))))
        | false => none
      | _ => none
    | _, _, _, _ => none
  | _ => none

def asBool : PV → Option Bool
  | .s (.d ⟨.bool, b⟩) => some b
  | _ => none

/-- The operations up to the next pick on a slot. -/
def splitPick (c : Nat) : List Oper → Option (List Oper × Oper × List Oper)
  | [] => none
  | o :: l => match o.op with
    | .pick (.tmp c') _ _ => cond (Nat.beq c c') (some ([], o, l)) (match splitPick c l with
      | some (g, p, r) => some (o :: g, p, r)
      | none => none)
    | _ => match splitPick c l with
      | some (g, p, r) => some (o :: g, p, r)
      | none => none
def known : List (Nat × Bool) → Nat → Bool → Bool
  | [], _, _ => false
  | (j, w) :: l, i, v => cond (Nat.beq j i) (cond (w == v) true (known l i v)) (known l i v)
def guardKnown (kn : List (Nat × Bool)) : Option (Nat × Bool) → Bool
  | none => true
  | some (j, w) => known kn j w
def deadDsts (st : St) : List Oper → St
  | [] => st
  | o :: l => deadDsts (st.setT o.dst (.s .dead)) l
/-- Are all of a guarded stretch guarded by one, in one way, or by one of its own? And does none write the slot? -/
def guardsOk (all : List Oper) (j : Nat) (want : Bool) (c : Nat) (own : List Nat) : List Oper → Bool
  | [] => true
  | o :: l => match o.guard with
    | some (i, v) => cond (Nat.beq i j) (cond (v == want) (cond (o.dst == some c) false (guardsOk all j want c (o.dst.toList ++ own) l)) false)
        (match (nth all i).bind (·.dst) with
          | some d => cond (memb own d) (cond (o.dst == some c) false (guardsOk all j want c (o.dst.toList ++ own) l)) false
          | none => false)
    | none => false

/-- Operations that write nothing that there was. -/
def isQ (o : Oper) : Bool := match o.op with
  | .move (.const (.slice none 0 0)) | .assign (.const (.slice none 0 0)) => false
  | .move _ | .assign _ | .pick .. | .alloc _ | .box .. | .build .. | .load .. | .nilCheck _ | .binOp .. | .unOp .. | .convert .. | .makeFunc .. | .extract .. | .fieldAddr .. | .field .. | .indexAddr .. | .index .. => o.dst.isSome
  | .buildSlice .. | .slice .. => o.dst.isSome
  | .call c => match c.callee with
    | .builtin .len | .builtin .max | .builtin .min => o.dst.isSome
    | .value _ => o.dst.isSome
    | _ => false
  | _ => false
/-- Is the slot that an operation writes there? -/
def dstOk (E : Env) (o : Oper) : Bool := match o.dst with
  | none => true
  | some d => Nat.blt d E.nt && Nat.ble E.lo d
def runOps (E : Env) (all : List Oper) : Nat → (R : Type) → List (Nat × Bool) → List Oper → St → (St → Option R) → Option R
  | 0, _, _, _, _, _ => none
  | _ + 1, _, _, [], st, k => k st
  | n + 1, R, kn, o :: rest, st, k => match o.guard with
    | none => step1 E o st fun st' => runOps E all n R kn rest st' k
    | some (j, want) => cond (known kn j want) (step1 E o st fun st' => runOps E all n R kn rest st' k)
      (match (nth all j).bind (·.dst) with
      | none => none
      | some c => match asBool (st.tmp c), splitPick c (o :: rest) with
        | some b, some (grp, p, rest') => cond (guardsOk all j want c [] grp && guardKnown kn p.guard && grp.all isQ) (match p.op with
          | .pick _ x y =>
            let A := runOps E.still all n Bool ((j, want) :: kn) grp (st.setT (some c) (.bo want)) fun st' => (opv st' (cond want x y)).bind asBool
            let B := (opv (deadDsts st grp) (cond want y x)).bind asBool
            (cond b (cond want A B) (cond want B A)).bind fun v =>
              runOps E all n R kn rest' ((deadDsts st grp).setT p.dst (.bo v)) k
          | _ => none) none
        | _, _ => none)

/-- What an operation has brought: its value, a row, buffers. -/
structure Del where
  d : Option Nat
  v : PV
  row : Option (Nat × List PC)
  bs : List (Nat × Buf)
def Del.put (D : Del) (st : St) : St :=
  { t := (match D.d with | some d => (d, D.v) :: st.t | none => st.t), r := (match D.row with | some (r, cs) => (r, some cs) :: st.r | none => st.r), b := D.bs ++ st.b }
def newOnes (old : List (Nat × Buf)) : List (Nat × Buf) → List (Nat × Buf)
  | [] => []
  | (t, B) :: l => match look old t with
    | none => (t, B) :: newOnes old l
    | some _ => newOnes old l
/-- The row that an operation lays or writes. -/
def rowOf (o : Oper) (st : St) : Option Nat := match o.op with
  | .alloc _ | .box _ _ => o.dst
  | .store _ a _ => match opc st a with
    | some (.loc r _) => some r
    | _ => none
  | _ => none
def delOf (o : Oper) (st st' : St) : Del :=
  ⟨o.dst, (match o.dst with | some d => st'.tmp d | none => .s .dead), (rowOf o st).bind (fun r => (st'.row r).map fun cs => (r, cs)), newOnes st.b st'.b⟩
def putDels (mask : Nat) : List (Nat × Del) → St → St
  | [], st => st
  | (i, D) :: l, st => cond (Nat.testBit mask i) (D.put (putDels mask l st)) (putDels mask l st)
def bindsAny (e : Edge) : Bool := match e.ground with
  | .textOnly _ => false
  | .gcOnly _ => false
  | _ => true
def maskOf (ms : List Nat) : List Edge → Nat
  | [] => 0
  | e :: l => cond (bindsAny e) (maskOf ms l ||| 2 ^ e.on ||| (nth ms e.on).getD 0) (maskOf ms l)
/-- Of each operation, which are surely done ahead of it. -/
def masks : List Nat → List Oper → List Nat
  | ms, [] => ms
  | ms, o :: l => masks (ms ++ [maskOf ms o.after.toList]) l
/-- From which place on all are in one order. -/
def tailAt (ms : List Nat) : Nat → Nat
  | 0 => 0
  | n + 1 => cond (Nat.beq ((nth ms n).getD 0) (2 ^ n - 1)) (tailAt ms n) (n + 1)
def dstsOf : List Oper → List Nat
  | [] => []
  | o :: l => o.dst.toList ++ dstsOf l
def noDup : List Nat → Bool
  | [] => true
  | d :: l => cond (memb l d) false (noDup l)
def isE (o : Oper) : Bool := match o.op with
  | .store _ (.tmp _) _ => o.dst.isNone
  | _ => isQ o
/-- The place of the operation that lays a slot's variable. -/
def allocAt (d : Nat) : Nat → List Oper → Option Nat
  | _, [] => none
  | i, o :: l => match o.op, o.dst with
    | .alloc _, some d' => cond (Nat.beq d' d) (some i) (allocAt d (i + 1) l)
    | _, _ => allocAt d (i + 1) l
/-- A store goes into a variable that the region lays; whoever may see the variable is in one order with the store. -/
def storeOk (ops : List Oper) (ms : List Nat) (j : Nat) (t : Nat) : Bool := match allocAt t 0 ops with
  | none => false
  | some a => Nat.testBit ((nth ms j).getD 0) a && (List.range ops.length).all fun i =>
      !(Nat.testBit ((nth ms i).getD 0) a) || Nat.beq i j || Nat.testBit ((nth ms i).getD 0) j || Nat.testBit ((nth ms j).getD 0) i
def storesOk (ops : List Oper) (ms : List Nat) : Nat → List Oper → Bool
  | _, [] => true
  | i, o :: l => match o.op with
    | .store _ (.tmp t) _ => cond (storeOk ops ms i t && o.guard.isNone) (storesOk ops ms (i + 1) l) false
    | _ => storesOk ops ms (i + 1) l
/-- A region's slots, as yet without a value; no row or buffer bears their numbers. -/
def St.prep (st : St) (ds : List Nat) : St := match ds with
  | [] => st
  | d :: l =>
    let st1 := (st.kill (PC.atLoc d)).kill (PC.ofDst d)
    St.prep { t := (d, .s .dead) :: st1.t, r := (d, none) :: st1.r, b := dropB d st1.b } l
def sameX (new old : List (Nat × Buf)) : List (Nat × Buf) → Bool
  | [] => true
  | (t, _) :: l => match look new t, look old t with
    | some C, some B => cond (B.x == C.x) (sameX new old l) false
    | _, _ => false
def setDel (j : Nat) (v : PV) : List (Nat × Del) → List (Nat × Del)
  | [] => []
  | (i, D) :: l => cond (Nat.beq i j) ((i, { D with v := v }) :: l) ((i, D) :: setDel j v l)
def deadDels : Nat → List Oper → List (Nat × Del) → List (Nat × Del)
  | _, [], ds => ds
  | i, o :: l, ds => deadDels (i + 1) l ((i, ⟨o.dst, .s .dead, none, []⟩) :: ds)
def delToks : List (Nat × Del) → List Nat
  | [] => []
  | (_, D) :: l => D.bs.map (·.1) ++ delToks l

/-- The place behind the last pick. -/
def lastPick (r : Nat) : Nat → List Oper → Nat
  | _, [] => r
  | i, o :: l => match o.op with
    | .pick .. => lastPick (i + 1) (i + 1) l
    | _ => lastPick r (i + 1) l
/-- Operations in an order of the text, each seeing only what is surely done ahead of it. -/
def dstIx : Nat → List Oper → List (Nat × Nat)
  | _, [] => []
  | i, o :: l => match o.dst with
    | some d => (i, d) :: dstIx (i + 1) l
    | none => dstIx (i + 1) l
def PC.tk : PC → Option Nat
  | .own t => some t
  | .eptr t _ _ _ => some t
  | .osuf t _ => some t
  | .opre t _ => some t
  | _ => none
def PC.okTok (bs : List (Nat × Buf)) (p : PC) : Bool := match p.tk with
  | none => true
  | some t => (look bs t).isSome
def PC.names (d : Nat) (p : PC) : Bool := PC.atLoc d p || PC.ofDst d p
def PC.away (mi i : Nat) (dl : List (Nat × Nat)) (p : PC) : Bool := dl.all fun q => Nat.testBit mi q.1 || Nat.beq q.1 i || !PC.names q.2 p
def PV.allC (f : PC → Bool) : PV → Bool
  | .s p => f p
  | .agg ps => ps.all f
  | .tup vs => vs.all fun v => v.2.all f
def bufsOwn (i d : Nat) (dl : List (Nat × Nat)) (bs : List (Nat × Buf)) : Bool := bs.all fun q => tokOf d q.1 && dl.all fun r => Nat.beq r.1 i || !tokOf r.2 q.1
/-- What an operation has brought names nothing of those that may still come, and its buffers are its own. -/
def Del.safe (o : Oper) (mi i : Nat) (dl : List (Nat × Nat)) (st : St) (D : Del) : Bool :=
  PV.allC (fun p => PC.okTok (D.bs ++ st.b) p && PC.away mi i dl p) D.v &&
  (match D.row with
    | none => true
    | some (_, cs) => cs.all fun p => PC.okTok (D.bs ++ st.b) p && PC.away mi i dl p) &&
  (match o.dst with
    | some d => bufsOwn i d dl D.bs
    | none => D.bs.isEmpty) &&
  (match o.op with
    | .store _ (.tmp t) _ => (match D.row with
      | some (r, _) => Nat.beq r t
      | none => false)
    | _ => true)
def runE (E : Env) (all : List Oper) (ms : List Nat) (dl : List (Nat × Nat)) (st0 : St) : Nat → (R : Type) → List (Nat × Bool) → Nat → List Oper → List (Nat × Del) → (List (Nat × Del) → Option R) → Option R
  | 0, _, _, _, _, _, _ => none
  | _ + 1, _, _, _, [], ds, k => k ds
  | n + 1, R, kn, i, o :: rest, ds, k =>
    let mi := (nth ms i).getD 0
    let st := putDels mi ds st0
    let go : Option R := step1 E.still o st fun st' => cond (sameX st'.b st.b st.b && Del.safe o mi i dl st (delOf o st st')) (runE E all ms dl st0 n R kn (i + 1) rest ((i, delOf o st st') :: ds) k) none
    match o.guard with
    | none => go
    | some (j, want) => cond (known kn j want) go
      (match (nth all j).bind (·.dst) with
      | none => none
      | some c => match asBool (st.tmp c), splitPick c (o :: rest) with
        | some b, some (grp, p, rest') => cond (guardsOk all j want c [] grp && guardKnown kn p.guard && grp.all isQ && Nat.testBit ((nth ms (i + grp.length)).getD 0) j) (match p.op with
          | .pick _ x y =>
            let m := i + grp.length
            let mk := (nth ms m).getD 0
            let A := runE E all ms dl st0 n Bool ((j, want) :: kn) i grp (setDel j (.bo want) ds) fun ds' => (opv (putDels mk ds' st0) (cond want x y)).bind asBool
            let B := (opv (putDels mk ds st0) (cond want y x)).bind asBool
            (cond b (cond want A B) (cond want B A)).bind fun v =>
              runE E all ms dl st0 n R kn (m + 1) rest' ((m, ⟨p.dst, .bo v, none, []⟩) :: deadDels i grp ds) k
          | _ => none) none
        | _, _ => none)
/-- Whatever an operation waits for stands ahead of it; so do guards. -/
def msLow : Nat → List Nat → Bool
  | _, [] => true
  | i, m :: l => Nat.blt m (2 ^ i) && msLow (i + 1) l
def guardsIn (ms : List Nat) : Nat → List Oper → Bool
  | _, [] => true
  | i, o :: l => (match o.guard with
    | none => true
    | some (j, _) => Nat.testBit ((nth ms i).getD 0) j) && guardsIn ms (i + 1) l
def runDraw {R : Type} (E : Env) (id : Nat) (l : List Oper) (st : St) (k : St → Option R) : Option R :=
  let ms := masks [] l
  let m := max (tailAt ms l.length) (lastPick 0 0 l)
  let es := l.take m
  cond (es.all isE && storesOk es ms 0 es && noDup (dstsOf es) && msLow 0 ms && guardsIn ms 0 l)
    (let st0 := (st.share ((look E.shr id).getD [])).prep (dstsOf es)
     runE E l ms (dstIx 0 es) st0 (l.length + 1) R [] 0 es [] fun ds =>
       runOps E l (l.length + 1) R [] (l.drop m) (putDels (2 ^ m - 1) ds st0) k) none

inductive AX where
  | normal
  | exit (id : Nat)
  | goto (l : Nat)
  | ret

def PC.frz (b : List (Nat × Buf)) : PC → PC
  | .own tok => match look b tok with
    | some B => .d ⟨.sl B.e, B.xs⟩
    | none => .dead
  | p => p
def PV.frz (b : List (Nat × Buf)) : PV → PV
  | .s p => .s (p.frz b)
  | v => v
def pickT (K : Keep) (st : St) : List Nat → List (Nat × PV)
  | [] => []
  | n :: l => (n, cond (memb K.fz n) ((st.tmp n).frz st.b) (st.tmp n)) :: pickT K st l
def pickR (K : Keep) (st : St) : List Nat → List (Nat × Option (List PC))
  | [] => []
  | n :: l => (n, cond (memb K.fz n) ((st.row n).map (List.map (PC.frz st.b))) (st.row n)) :: pickR K st l
def pickB (b : List (Nat × Buf)) : List Nat → List (Nat × Buf)
  | [] => []
  | t :: l => match look b t with
    | some B => (t, B) :: pickB b l
    | none => pickB b l
def rowToks (st : St) (n : Nat) : List Nat := ((st.row n).getD []).flatMap fun | .own t => [t] | _ => []
def PC.retok (a b : Nat) : PC → PC
  | .own t => .own (cond (Nat.beq t a) b t)
  | .eptr t i o cs => .eptr (cond (Nat.beq t a) b t) i o cs
  | .osuf t n => .osuf (cond (Nat.beq t a) b t) n
  | .opre t n => .opre (cond (Nat.beq t a) b t) n
  | p => p
def PV.mapC (f : PC → PC) : PV → PV
  | .s p => .s (f p)
  | .agg ps => .agg (ps.map f)
  | .tup vs => .tup (vs.map fun v => (v.1, v.2.map f))
/-- A buffer gets another number. -/
def St.retok (st : St) (a b : Nat) : St := match look st.b a with
  | none => st
  | some B =>
    let st1 := st.kill (PC.atTok b)
    { t := st1.t.map fun p => (p.1, p.2.mapC (PC.retok a b)), r := st1.r.map fun p => (p.1, p.2.map (List.map (PC.retok a b))), b := put (dropTok a st1.b) b B }
def St.retoks (st : St) : List Nat → St
  | [] => st
  | n :: l => match st.tmp n with
    | .s (.own t) => cond (Nat.beq t (500000 + n)) (St.retoks st l) (St.retoks (st.retok t (500000 + n)) l)
    | _ => St.retoks st l
def St.restrict (st0 : St) (K : Keep) : St :=
  let st := st0.retoks K.rn
  let st1 := st.share (K.sh ++ K.fz.flatMap fun n => (st.tmp n).toks st ++ rowToks st n)
  let bs := pickB st1.b K.bs
  let f := fun p => !PC.okTok bs p
  ⟨(pickT K st1 K.ts).map fun p => (p.1, p.2.mapD f), (pickR K st1 K.rs).map fun p => (p.1, p.2.map (List.map (PC.mapD f))), bs⟩

def firstRegion : Code → Nat
  | .region id _ _ => id
  | .seq a _ => firstRegion a
  | .block _ b => firstRegion b
  | .loop b => firstRegion b
  | .scope b => firstRegion b
  | _ => 0

def loopN {R : Type} (body : St → (AX → St → Option R) → Option R) (K : Keep) : Nat → St → (AX → St → Option R) → Option R
  | 0, _, _ => none
  | n + 1, st, k => body st fun e st' => match e with
    | .normal => loopN body K n (st'.restrict K) k
    | e => k e st'

def gotoN {R : Type} (body : St → (AX → St → Option R) → Option R) (l : Nat) (K : Keep) : Nat → St → (AX → St → Option R) → Option R
  | 0, _, _ => none
  | n + 1, st, k => body st fun e st' => match e with
    | .goto l' => cond (Nat.beq l' l) (gotoN body l K n (st'.restrict K) k) none
    | e => k e st'

def aexec {R : Type} (E : Env) : Code → St → (AX → St → Option R) → Option R
  | .skip, st, k => k .normal st
  | .region _ ops false, st, k => cond (ops.toList.all (dstOk E)) (runOps E ops.toList (ops.size + 1) R [] ops.toList st fun st' => k .normal st') none
  | .region id ops true, st, k => cond (ops.toList.all (dstOk E)) (runDraw E id ops.toList st fun st' => k .normal st') none
  | .seq a b, st, k => aexec E a st fun e st' => match e with
    | .normal => aexec E b st' k
    | e => k e st'
  | .cond c a b, st, k => match (opv st c).bind asBool with
    | some t => cond t (aexec E a st k) (aexec E b st k)
    | none => none
  | .block id c, st, k => aexec E c st fun e st' => match e with
    | .exit id' => cond (Nat.beq id' id) (k .normal st') (k (.exit id') st')
    | e => k e st'
  | .loop c, st, k => loopN (aexec E c) (E.keepOf (firstRegion c)) (E.fuel (E.keepOf (firstRegion c))) (st.restrict (E.keepOf (firstRegion c))) k
  | .scope (.seq a (.seq (.label l) b)), st, k => cond (findLabel a l).isNone (aexec E a st fun e st' => match e with
    | .normal => gotoN (aexec E b) l (E.keepOf (10000 + l)) E.N (st'.restrict (E.keepOf (10000 + l))) k
    | .goto _ => none
    | e => k e st') none
  | .exit id, st, k => k (.exit id) st
  | .goto l, st, k => k (.goto l) st
  | .ret, st, k => k .ret st
  | _, _, _ => none

inductive Dir where
  | a | b | t | f | i | l | g
def subAt : List Dir → Code → Code
  | .a :: p, .seq x _ => subAt p x
  | .b :: p, .seq _ y => subAt p y
  | .t :: p, .cond _ x _ => subAt p x
  | .f :: p, .cond _ _ y => subAt p y
  | .i :: p, .block _ c => subAt p c
  | .l :: p, .loop c => subAt p c
  | .g :: p, .scope (.seq _ (.seq (.label _) b)) => subAt p b
  | .a :: p, .scope (.seq a _) => subAt p a
  | _, c => c
/-- What is done behind the code at a place; the numbers: the rounds left of the loops around it. -/
def kontAt {R : Type} (E : Env) : List Dir → Code → List Nat → (AX → St → Option R) → (AX → St → Option R)
  | .a :: p, .seq x y, ns, k => kontAt E p x ns fun e st' => match e with
    | .normal => aexec E y st' k
    | e => k e st'
  | .b :: p, .seq _ y, ns, k => kontAt E p y ns k
  | .t :: p, .cond _ x _, ns, k => kontAt E p x ns k
  | .f :: p, .cond _ _ y, ns, k => kontAt E p y ns k
  | .i :: p, .block id c, ns, k => kontAt E p c ns fun e st' => match e with
    | .exit id' => cond (Nat.beq id' id) (k .normal st') (k (.exit id') st')
    | e => k e st'
  | .l :: p, .loop c, n :: ns, k => kontAt E p c ns fun e st' => match e with
    | .normal => loopN (aexec E c) (E.keepOf (firstRegion c)) n (st'.restrict (E.keepOf (firstRegion c))) k
    | e => k e st'
  | .g :: p, .scope (.seq _ (.seq (.label lb) b)), n :: ns, k => kontAt E p b ns fun e st' => match e with
    | .goto l' => cond (Nat.beq l' lb) (gotoN (aexec E b) lb (E.keepOf (10000 + lb)) n (st'.restrict (E.keepOf (10000 + lb))) k) none
    | e => k e st'
  | .a :: p, .scope (.seq a (.seq (.label lb) b)), ns, k => kontAt E p a ns fun e st' => match e with
    | .normal => gotoN (aexec E b) lb (E.keepOf (10000 + lb)) E.N (st'.restrict (E.keepOf (10000 + lb))) k
    | .goto _ => none
    | e => k e st'
  | _, _, _, k => k

def initT : (i : Nat) → (as : List AS) → ASs.I as → List (Nat × PV) × List (Nat × Buf)
  | _, [], _ => ([], [])
  | i, .d v :: as, z => let q := initT (i + 1) as z.2; ((i, encVT v z.1) :: q.1, q.2)
  | i, .ref cs :: as, z => let q := initT (i + 1) as z.2; ((i, .s (.sref (cs.cells z.1))) :: q.1, q.2)
  | i, .mv e :: as, z => let q := initT (i + 1) as z.2; ((i, .s (.own i)) :: q.1, (i, ⟨true, e, z.1⟩) :: q.2)
def initSt (as : List AS) (z : ASs.I as) : St :=
  let q := initT 0 as z
  ⟨q.1, [], q.2⟩

def resPVs (E : Env) (st : St) : List ResultVar → Option (List PV)
  | [] => some []
  | r :: l => match (match r with
      | .tmp t => some (st.tmp t)
      | .cell t T => match E.tyOf T, st.tmp t with
        | some ti, .s (.loc r off) => match st.row r with
          | some cs => loadCells ti.vt.isAg ti.vt.size (cs.drop off)
          | none => none
        | _, _ => none), resPVs E st l with
    | some v, some vs => some (v :: vs)
    | _, _ => none
def decRes (C : Tab) (st : St) : (r : RS) → PV → Option r.I
  | .d v, p => cond v.noFn (toVT C st v p) none
  | .fresh e, .s (.own tok) => cond e.noFn (match look st.b tok with
    | some ⟨true, e', xs⟩ => castL e' e xs
    | _ => none) none
  | _, _ => none
def decRess (C : Tab) (st : St) : (rs : List RS) → List PV → Option (RSs.I rs)
  | [], [] => some ()
  | [r], [v] => decRes C st r v
  | r :: r' :: rs, v :: vs => match decRes C st r v, decRess C st (r' :: rs) vs with
    | some x, some y => some (x, y)
    | _, _ => none
  | _, _ => none
def resNew : List RS → List PV → List Nat
  | .fresh _ :: rs, .s (.own tok) :: vs => tok :: resNew rs vs
  | _ :: rs, _ :: vs => resNew rs vs
  | _, _ => []
def resOld (st : St) : List RS → List PV → List Nat
  | .d _ :: rs, v :: vs => v.toks st ++ resOld st rs vs
  | _ :: rs, _ :: vs => resOld st rs vs
  | _, _ => []
def finish (E : Env) (res : List ResultVar) (rs : List RS) (e : AX) (st : St) : Option (RSs.I rs) := match e with
  | .normal | .ret => match resPVs E st res with
    | some vs => cond (apartB (resOld st rs vs) (resNew rs vs)) (decRess E.C st rs vs) none
    | none => none
  | _ => none

def arun (E : Env) (fn : Func) (as : List AS) (rs : List RS) (z : ASs.I as) : Option (RSs.I rs) := match fn.body with
  | some c => cond (Nat.ble as.length E.nt) (aexec E c (initSt as z) (finish E fn.results.toList rs)) none
  | none => none

end Go.PgAM

/-
  What the abstract machine's values stand for in the model's memory, and how that is kept while the memory grows.
-/
namespace Go.PgAM
open Go Go.RowKit
set_option linter.unusedVariables false

/-- Blocks that nobody writes, and frozen beginnings of others, are as they were. -/
structure Keeps (O : Nat → Prop) (F : Nat → Nat) (w w' : World) : Prop where
  size : w.heap.size ≤ w'.heap.size
  old : ∀ b, O b → w'.heap[b]? = w.heap[b]?
  frz : ∀ b o, o < F b → w'.cell? ⟨b, o, none⟩ = w.cell? ⟨b, o, none⟩

theorem Keeps.refl (O F w) : Keeps O F w w := ⟨Nat.le_refl _, fun _ _ => rfl, fun _ _ _ => rfl⟩
theorem Keeps.trans {O F O' F' w w' w''} (h : Keeps O F w w') (k : Keeps O' F' w' w'') (hO : ∀ b, O b → O' b) (hF : ∀ b, F b ≤ F' b) : Keeps O F w w'' :=
  ⟨Nat.le_trans h.size k.size, fun b hb => (k.old b (hO b hb)).trans (h.old b hb), fun b o ho => (k.frz b o (Nat.lt_of_lt_of_le ho (hF b))).trans (h.frz b o ho)⟩

/-- A step of the memory in which, but for the blocks of a list, all that there was stays. -/
structure Evo (M : List Nat) (F F' : Nat → Nat) (w w' : World) : Prop where
  os : w'.os = w.os
  tape : w'.tape = w.tape
  drawn : w.drawn ≤ w'.drawn
  output : w'.output = w.output
  size : w.heap.size ≤ w'.heap.size
  block : ∀ b, b < w.heap.size → b ∉ M → w'.heap[b]? = w.heap[b]?
  fold : ∀ b, b < w.heap.size → b ∉ M → F' b = F b
  fge : ∀ b, F b ≤ F' b
  fnew : ∀ b, w'.heap.size ≤ b → F' b = 0

/-- A function of the program that has a body is entered. -/
def Enters (P : Program) (f : FuncId) : Prop := ∀ args w, (callFunc f args).run P w = .ok (.enter f args) w

/-- A value's cells, whole. -/
def Whole (v : VT) (u : Value) (g : Nat → Option Value) : Prop := match v with
  | .sc _ => g = fun _ => some u
  | .ag cs => ∃ cells : Array Value, u = .agg cells ∧ cells.size = cs.size ∧ g = fun j => cells[j]?
def packV : List Value → Value
  | [v] => v
  | vs => .tuple vs.toArray

mutual
def RepS (P : Program) : (s : Sc) → (O : Nat → Prop) → (F : Nat → Nat) → (w : World) → s.I → Value → Prop
  | .int k, _, _, _, x, v => v = .int k x
  | .bool, _, _, _, x, v => v = .bool x
  | .str, _, _, _, x, v => v = .string x
  | .sl e, O, F, w, xs, v => ∃ a cap, v = .slice a (List.length (α := e.I) xs) cap ∧ List.length (α := e.I) xs ≤ cap ∧
      (List.length (α := e.I) xs = 0 ∨ ∃ b off, a = some ⟨b, off, none⟩ ∧ off + List.length (α := e.I) xs * e.size ≤ F b ∧
        ∀ i (h : i < List.length (α := e.I) xs), RepV P e O F w (List.get (α := e.I) xs ⟨i, h⟩) (fun j => w.cell? ⟨b, off + i * e.size + j, none⟩))
  | .fn a r, O, F, w, φ, v => ∃ f caps, v = .func (.func f) #[] caps ∧
      ∀ (F' : Nat → Nat) (w' : World), Keeps O F w w' → (∀ b, F b ≤ F' b) → (∀ b, w'.heap.size ≤ b → F' b = 0) → ∀ (x : a.I) (y : r.I), (φ : a.I → Option r.I) x = some y →
        ∀ args, RepWs P a (fun b => b < w'.heap.size) F' w' x args →
          Enters P f ∧ Calls P f (args.toArray ++ caps) w' fun e w'' => ∃ us F'', e = .returned (packV us) ∧ Evo [] F' F'' w' w'' ∧ RepWs P r (fun _ => False) F'' w'' y us
def RepV (P : Program) : (t : VT) → (O : Nat → Prop) → (F : Nat → Nat) → (w : World) → t.I → (Nat → Option Value) → Prop
  | .sc s, O, F, w, x, g => ∃ u, g 0 = some u ∧ RepS P s O F w x u
  | .ag cs, O, F, w, x, g => RepCs P cs O F w x g
def RepCs (P : Program) : (t : Scs) → (O : Nat → Prop) → (F : Nat → Nat) → (w : World) → t.I → (Nat → Option Value) → Prop
  | .nil, _, _, _, _, _ => True
  | .cons s .nil, O, F, w, x, g => ∃ u, g 0 = some u ∧ RepS P s O F w x u
  | .cons s (.cons s' r), O, F, w, x, g => (∃ u, g 0 = some u ∧ RepS P s O F w x.1 u) ∧ RepCs P (.cons s' r) O F w x.2 (fun j => g (j + 1))
def RepWs (P : Program) : (t : VTs) → (O : Nat → Prop) → (F : Nat → Nat) → (w : World) → t.I → List Value → Prop
  | .nil, _, _, _, _, us => us = []
  | .cons v .nil, O, F, w, x, us => ∃ u g, us = [u] ∧ Whole v u g ∧ RepV P v O F w x g
  | .cons v (.cons v' r), O, F, w, x, us => ∃ u us' g, us = u :: us' ∧ Whole v u g ∧ RepV P v O F w x.1 g ∧ RepWs P (.cons v' r) O F w x.2 us'
end

section mono
variable {P : Program} {O O' : Nat → Prop} {F F' : Nat → Nat} {w w' : World}
mutual
theorem RepS.mono (hO : ∀ b, O b → O' b) (hF : ∀ b, F b ≤ F' b) (hK : Keeps O F w w') : (s : Sc) → (x : s.I) → (v : Value) → RepS P s O F w x v → RepS P s O' F' w' x v
  | .int k, x, v, h => by simpa only [RepS] using h
  | .bool, x, v, h => by simpa only [RepS] using h
  | .str, x, v, h => by simpa only [RepS] using h
  | .sl e, xs, v, h => by
    simp only [RepS] at h ⊢
    obtain ⟨a, cap, hv, hc, hx⟩ := h
    refine ⟨a, cap, hv, hc, ?_⟩
    rcases hx with hx | ⟨b, off, ha, hle, hel⟩
    · exact .inl hx
    · refine .inr ⟨b, off, ha, Nat.le_trans hle (hF b), fun i hi => ?_⟩
      refine RepV.mono hO hF hK e _ _ _ (fun j hj => ?_) (hel i hi)
      have : off + i * e.size + j < F b := by
        have h1 : i * e.size + e.size ≤ List.length (α := e.I) xs * e.size := by
          have := Nat.mul_le_mul_right e.size (Nat.succ_le_of_lt hi)
          simpa [Nat.succ_mul] using this
        omega
      exact (hK.frz b _ this).symm
  | .fn a r, φ, v, h => by
    simp only [RepS] at h ⊢
    obtain ⟨f, caps, hv, hx⟩ := h
    exact ⟨f, caps, hv, fun F2 w2 hK2 hF2 hn x y hy args ha => hx F2 w2 (hK.trans hK2 hO hF) (fun b => Nat.le_trans (hF b) (hF2 b)) hn x y hy args ha⟩
theorem RepV.mono (hO : ∀ b, O b → O' b) (hF : ∀ b, F b ≤ F' b) (hK : Keeps O F w w') : (t : VT) → (x : t.I) → (g g' : Nat → Option Value) → (∀ j, j < t.size → g j = g' j) → RepV P t O F w x g → RepV P t O' F' w' x g'
  | .sc s, x, g, g', hg, h => by
    simp only [RepV] at h ⊢
    obtain ⟨u, hu, hr⟩ := h
    exact ⟨u, (hg 0 (by simp [VT.size])).symm.trans hu, RepS.mono hO hF hK s x u hr⟩
  | .ag cs, x, g, g', hg, h => by
    simp only [RepV] at h ⊢
    exact RepCs.mono hO hF hK cs x g g' (fun j hj => hg j (by simpa [VT.size] using hj)) h
theorem RepCs.mono (hO : ∀ b, O b → O' b) (hF : ∀ b, F b ≤ F' b) (hK : Keeps O F w w') : (t : Scs) → (x : t.I) → (g g' : Nat → Option Value) → (∀ j, j < t.size → g j = g' j) → RepCs P t O F w x g → RepCs P t O' F' w' x g'
  | .nil, x, g, g', hg, h => by simp only [RepCs]
  | .cons s .nil, x, g, g', hg, h => by
    simp only [RepCs] at h ⊢
    obtain ⟨u, hu, hr⟩ := h
    exact ⟨u, (hg 0 (by simp [Scs.size])).symm.trans hu, RepS.mono hO hF hK s x u hr⟩
  | .cons s (.cons s' r), x, g, g', hg, h => by
    simp only [RepCs] at h ⊢
    obtain ⟨⟨u, hu, hr⟩, h2⟩ := h
    exact ⟨⟨u, (hg 0 (by simp [Scs.size])).symm.trans hu, RepS.mono hO hF hK s x.1 u hr⟩, RepCs.mono hO hF hK (.cons s' r) x.2 _ _ (fun j hj => hg (j + 1) (by simp only [Scs.size] at hj ⊢; omega)) h2⟩
theorem RepWs.mono (hO : ∀ b, O b → O' b) (hF : ∀ b, F b ≤ F' b) (hK : Keeps O F w w') : (t : VTs) → (x : t.I) → (us : List Value) → RepWs P t O F w x us → RepWs P t O' F' w' x us
  | .nil, x, us, h => by simpa only [RepWs] using h
  | .cons v .nil, x, us, h => by
    simp only [RepWs] at h ⊢
    obtain ⟨u, g, h1, h2, h3⟩ := h
    exact ⟨u, g, h1, h2, RepV.mono hO hF hK v x g g (fun _ _ => rfl) h3⟩
  | .cons v (.cons v' r), x, us, h => by
    simp only [RepWs] at h ⊢
    obtain ⟨u, us', g, h1, h2, h3, h4⟩ := h
    exact ⟨u, us', g, h1, h2, RepV.mono hO hF hK v x.1 g g (fun _ _ => rfl) h3, RepWs.mono hO hF hK (.cons v' r) x.2 us' h4⟩
end
end mono
end Go.PgAM

/-
  The abstract machine's state against the model's frame and memory.
-/
namespace Go.PgAM
open Go Go.RowKit
set_option linter.unusedVariables false

def All2 {α β : Type} (R : α → β → Prop) : List α → List β → Prop
  | [], [] => True
  | a :: l, b :: m => R a b ∧ All2 R l m
  | _, _ => False
theorem All2.imp {α β γ : Type} {R : α → β → Prop} {S : γ → β → Prop} (f : α → γ) (h : ∀ a b, R a b → S (f a) b) : ∀ {l : List α} {m : List β}, All2 R l m → All2 S (l.map f) m
  | [], [], _ => trivial
  | a :: l, b :: m, hx => ⟨h _ _ hx.1, All2.imp f h hx.2⟩
  | [], _ :: _, hx => hx.elim
  | _ :: _, [], hx => hx.elim
theorem All2.imp' {α β : Type} {R S : α → β → Prop} (h : ∀ a b, R a b → S a b) {l : List α} {m : List β} (hx : All2 R l m) : All2 S l m := by
  have := All2.imp (S := S) id h hx
  simpa using this
theorem All2.length {α β : Type} {R : α → β → Prop} : ∀ {l : List α} {m : List β}, All2 R l m → l.length = m.length
  | [], [], _ => rfl
  | _ :: l, _ :: m, h => by simp [All2.length h.2]
  | [], _ :: _, h => h.elim
  | _ :: _, [], h => h.elim
theorem All2.get {α β : Type} {R : α → β → Prop} : ∀ {l : List α} {m : List β}, All2 R l m → ∀ (j : Nat) (x : α), l[j]? = some x → ∃ y, m[j]? = some y ∧ R x y
  | [], [], _, j, x, hj => by simp at hj
  | a :: l, b :: m, h, 0, x, hj => by simp at hj; subst hj; exact ⟨b, by simp, h.1⟩
  | a :: l, b :: m, h, j + 1, x, hj => by simpa using All2.get h.2 j x (by simpa using hj)
  | [], _ :: _, h, _, _, _ => h.elim
  | _ :: _, [], h, _, _, _ => h.elim
theorem All2.of_get {α β : Type} {R : α → β → Prop} : ∀ {l : List α} {m : List β}, l.length = m.length → (∀ (j : Nat) (x : α) (y : β), l[j]? = some x → m[j]? = some y → R x y) → All2 R l m
  | [], [], _, _ => trivial
  | a :: l, b :: m, hl, h => ⟨h 0 a b rfl rfl, All2.of_get (by simpa using hl) fun j x y hx hy => h (j + 1) x y (by simpa using hx) (by simpa using hy)⟩
  | [], _ :: _, hl, _ => by simp at hl
  | _ :: _, [], hl, _ => by simp at hl
theorem All2.append {α β : Type} {R : α → β → Prop} : ∀ {l : List α} {m : List β} {l' : List α} {m' : List β}, All2 R l m → All2 R l' m' → All2 R (l ++ l') (m ++ m')
  | [], [], _, _, _, h => h
  | a :: l, b :: m, _, _, h, h' => ⟨h.1, All2.append h.2 h'⟩
  | [], _ :: _, _, _, h, _ => h.elim
  | _ :: _, [], _, _, h, _ => h.elim
theorem All2.drop {α β : Type} {R : α → β → Prop} : ∀ (n : Nat) {l : List α} {m : List β}, All2 R l m → All2 R (l.drop n) (m.drop n)
  | 0, _, _, h => h
  | n + 1, [], [], _ => trivial
  | n + 1, _ :: l, _ :: m, h => All2.drop n h.2
  | _ + 1, [], _ :: _, h => h.elim
  | _ + 1, _ :: _, [], h => h.elim
theorem All2.take {α β : Type} {R : α → β → Prop} : ∀ (n : Nat) {l : List α} {m : List β}, All2 R l m → All2 R (l.take n) (m.take n)
  | 0, _, _, h => trivial
  | n + 1, [], [], _ => trivial
  | n + 1, _ :: l, _ :: m, h => ⟨h.1, All2.take n h.2⟩
  | _ + 1, [], _ :: _, h => h.elim
  | _ + 1, _ :: _, [], h => h.elim

structure Cx where
  O : Nat → Prop
  F : Nat → Nat
  ρ : Nat → Nat
  β : Nat → Option (Nat × Nat)

def SlAt (β : Nat → Option (Nat × Nat)) (tok n : Nat) (v : Value) : Prop := match β tok with
  | some (b, cap) => v = .slice (some ⟨b, 0, none⟩) n cap
  | none => n = 0 ∧ ∃ a, v = .slice a 0 0
def CellsAt (P : Program) (O : Nat → Prop) (F : Nat → Nat) (w : World) (cs : List DC) (b off : Nat) : Prop :=
  ∀ j c, cs[j]? = some c → ∃ u, w.cell? ⟨b, off + j, none⟩ = some u ∧ RepS P c.s O F w c.x u
def SrefAt (P : Program) (O : Nat → Prop) (F : Nat → Nat) (w : World) (cs : List DC) (v : Value) : Prop :=
  ∃ b off, v = .pointer (some ⟨b, off, none⟩) ∧ (O b ∨ off + cs.length ≤ F b) ∧ CellsAt P O F w cs b off
def RelCap (P : Program) (X : Cx) (w : World) : Cap → Value → Prop
  | .loc r, v => v = .pointer (some ⟨X.ρ r, 0, none⟩)
  | .sref cs, v => SrefAt P X.O X.F w cs v
def RelC (P : Program) (X : Cx) (bs : List (Nat × Buf)) (w : World) : PC → Value → Prop
  | .d c, v => RepS P c.s X.O X.F w c.x v
  | .loc r off, v => v = .pointer (some ⟨X.ρ r, off, none⟩)
  | .sref cs, v => SrefAt P X.O X.F w cs v
  | .own tok, v => ∃ B, look bs tok = some B ∧ SlAt X.β tok B.xs.length v
  | .eptr tok i off cs, v => ∃ B b cap, look bs tok = some B ∧ X.β tok = some (b, cap) ∧ 0 ≤ i ∧ i.toNat < cap ∧ off + cs.length = B.e.size ∧
      v = .pointer (some ⟨b, i.toNat * B.e.size + off, none⟩) ∧ CellsAt P X.O X.F w cs b (i.toNat * B.e.size + off)
  | .fn f caps, v => ∃ vs : Array Value, v = .func (.func f) #[] vs ∧ All2 (RelCap P X w) caps vs.toList
  | .opre tok hi, v => ∃ B, look bs tok = some B ∧ hi ≤ B.xs.length ∧ SlAt X.β tok hi v
  | .osuf tok lo, v => ∃ B, look bs tok = some B ∧ lo ≤ B.xs.length ∧ (match X.β tok with
      | some (b, cap) => ∃ a, v = .slice (some a) (B.xs.length - lo) (cap - lo) ∧ (lo < cap → a = ⟨b, lo * B.e.size, none⟩)
      | none => ∃ a, v = .slice a 0 0)
  | .undef, v => v = Go.undef
  | .dead, _ => True
/-- One cell. -/
def RelK (P : Program) (X : Cx) (bs : List (Nat × Buf)) (w : World) (p : PC) (u : Value) : Prop := RelC P X bs w p u ∧ u.oneCell' = true
def RelTC (P : Program) (X : Cx) (bs : List (Nat × Buf)) (w : World) (x : Bool × List PC) (u : Value) : Prop := match x.1 with
  | true => ∃ cells : Array Value, u = .agg cells ∧ All2 (RelK P X bs w) x.2 cells.toList
  | false => All2 (RelK P X bs w) x.2 [u]
def RelP (P : Program) (X : Cx) (bs : List (Nat × Buf)) (w : World) : PV → Value → Prop
  | .s p, v => RelC P X bs w p v
  | .agg ps, v => ∃ cells : Array Value, v = .agg cells ∧ All2 (RelK P X bs w) ps cells.toList
  | .tup vs, v => ∃ us : Array Value, v = .tuple us ∧ All2 (RelTC P X bs w) vs us.toList

def RowOk (P : Program) (X : Cx) (bs : List (Nat × Buf)) (w : World) (r : Nat) (cells : List PC) : Prop :=
  ¬ X.O (X.ρ r) ∧ X.F (X.ρ r) = 0 ∧ ∃ cs el, w.heap[X.ρ r]? = some (.cells cs el (0, 0)) ∧ All2 (RelK P X bs w) cells cs.toList
def BufOk (P : Program) (X : Cx) (w : World) (tok : Nat) (B : Buf) : Prop := match X.β tok with
  | none => B.xs.length = 0
  | some (b, cap) => ¬ X.O b ∧ (X.F b ≤ if B.x then 0 else B.xs.length * B.e.size) ∧ B.xs.length ≤ cap ∧
      ∃ cs el, w.heap[b]? = some (.cells cs el (0, 0)) ∧ cs.size = cap * B.e.size ∧
        ∀ i (h : i < B.xs.length), RepV P B.e X.O X.F w (List.get B.xs ⟨i, h⟩) (fun j => cs[i * B.e.size + j]?)

/-- Where the call began, and what it may write of what there was. -/
structure At0 where
  w0 : World
  F0 : Nat → Nat
  M0 : List Nat
  nt : Nat
  lo : Nat := 0
  arg : Nat → Value := fun _ => Go.undef
/-- A slot that may be written. -/
def At0.ok (Z : At0) (n : Nat) : Prop := n < Z.nt ∧ Z.lo ≤ n
/-- The first slots stay as they are. -/
structure Frm (Z : At0) (a : Act) : Prop where
  size : Z.nt ≤ a.tmps.size
  arg : ∀ n, n < Z.lo → a.tmps.getD n Go.undef = Z.arg n

structure Rel (P : Program) (Z : At0) (X : Cx) (st : St) (a : Act) (w : World) : Prop where
  O : X.O = fun b => b < Z.w0.heap.size ∧ b ∉ Z.M0
  evo : Evo Z.M0 Z.F0 X.F Z.w0 w
  nt : Frm Z a
  defers : a.defers = []
  t : ∀ n pv, look st.t n = some pv → RelP P X st.b w pv (a.tmps.getD n Go.undef)
  r : ∀ r cells, st.row r = some cells → RowOk P X st.b w r cells
  b : ∀ tok B, look st.b tok = some B → BufOk P X w tok B
  rr : ∀ r r' c c', st.row r = some c → st.row r' = some c' → r ≠ r' → X.ρ r ≠ X.ρ r'
  rb : ∀ r c tok B b cap, st.row r = some c → look st.b tok = some B → X.β tok = some (b, cap) → X.ρ r ≠ b
  bb : ∀ tok tok' B B' b cap b' cap', look st.b tok = some B → look st.b tok' = some B' → X.β tok = some (b, cap) → X.β tok' = some (b', cap') → tok ≠ tok' → b ≠ b'

def Good (P : Program) (Z : At0) (st : St) (a : Act) (w : World) : Prop := ∃ X, Rel P Z X st a w

/-- A step of contexts, buffers and memory, for all parts but those that a test names. -/
structure Moves (X X' : Cx) (bs bs' : List (Nat × Buf)) (w w' : World) (f : PC → Bool) : Prop where
  O : X'.O = X.O
  F : ∀ b, X.F b ≤ X'.F b
  K : Keeps X.O X.F w w'
  ρ : ∀ p r, f p = false → PC.atLoc r p = true → X'.ρ r = X.ρ r
  b1 : ∀ p t, f p = false → PC.atTok t p = true → X'.β t = X.β t ∧ ∀ B, look bs t = some B → ∃ B', look bs' t = some B' ∧ B'.xs.length = B.xs.length ∧ B'.e = B.e
  b2 : ∀ p t, f p = false → PC.ptrTo t p = true → ∀ B b cap, look bs t = some B → X.β t = some (b, cap) → w'.heap[b]? = w.heap[b]?

section
variable {P : Program} {X X' : Cx} {bs bs' : List (Nat × Buf)} {w w' : World} {f : PC → Bool}
theorem cell_of_heap {w w' : World} {b o : Nat} (h : w'.heap[b]? = w.heap[b]?) : w'.cell? ⟨b, o, none⟩ = w.cell? ⟨b, o, none⟩ := by
  simp only [World.cell?, h]
theorem CellsAt.step {O : Nat → Prop} {F F' : Nat → Nat} {cs : List DC} {b off : Nat} (hF : ∀ b, F b ≤ F' b) (hK : Keeps O F w w') (hc : ∀ j, j < cs.length → w'.cell? ⟨b, off + j, none⟩ = w.cell? ⟨b, off + j, none⟩) (h : CellsAt P O F w cs b off) :
    CellsAt P O F' w' cs b off := by
  intro j c hj
  obtain ⟨u, hu, hr⟩ := h j c hj
  have hlt : j < cs.length := by
    rcases Nat.lt_or_ge j cs.length with h' | h'
    · exact h'
    · simp [List.getElem?_eq_none h'] at hj
  exact ⟨u, (hc j hlt).trans hu, RepS.mono (fun _ h => h) hF hK _ _ _ hr⟩
theorem SrefAt.step {O : Nat → Prop} {F F' : Nat → Nat} {cs : List DC} {v : Value} (hF : ∀ b, F b ≤ F' b) (hK : Keeps O F w w') (h : SrefAt P O F w cs v) : SrefAt P O F' w' cs v := by
  obtain ⟨b, off, hv, ho, hc⟩ := h
  refine ⟨b, off, hv, ho.imp id fun h => Nat.le_trans h (hF b), hc.step hF hK fun j hj => ?_⟩
  rcases ho with ho | ho
  · exact cell_of_heap (hK.old b ho)
  · exact hK.frz b _ (by omega)
theorem RelCap.step {c : Cap} {v : Value} (hO : X'.O = X.O) (hF : ∀ b, X.F b ≤ X'.F b) (hK : Keeps X.O X.F w w') (hρ : ∀ r, c.isLoc r = true → X'.ρ r = X.ρ r) (h : RelCap P X w c v) : RelCap P X' w' c v := by
  cases c with
  | loc r => simp only [RelCap] at h ⊢; rw [hρ r (by simp [Cap.isLoc])]; exact h
  | sref cs => simp only [RelCap] at h ⊢; rw [hO]; exact h.step hF hK
theorem All2.imp_mem {α β : Type} {R S : α → β → Prop} : ∀ {l : List α} {m : List β}, (∀ a b, a ∈ l → R a b → S a b) → All2 R l m → All2 S l m
  | [], [], _, _ => trivial
  | a :: l, b :: m, h, hx => ⟨h _ _ (by simp) hx.1, All2.imp_mem (fun a b ha => h a b (by simp [ha])) hx.2⟩
  | [], _ :: _, _, hx => hx.elim
  | _ :: _, [], _, hx => hx.elim
theorem RelC.step (m : Moves X X' bs bs' w w' f) (p : PC) (v : Value) (hf : f p = false) (h : RelC P X bs w p v) : RelC P X' bs' w' p v := by
  cases p with
  | d c => simp only [RelC] at h ⊢; rw [m.O]; exact RepS.mono (fun _ h => h) m.F m.K _ _ _ h
  | loc r off => simp only [RelC] at h ⊢; rw [m.ρ _ r hf (by simp [PC.atLoc])]; exact h
  | sref cs => simp only [RelC] at h ⊢; rw [m.O]; exact h.step m.F m.K
  | own tok =>
    simp only [RelC] at h ⊢
    obtain ⟨B, hB, hv⟩ := h
    obtain ⟨hβ, hx⟩ := m.b1 _ tok hf (by simp [PC.atTok])
    obtain ⟨B', hB', hl, _⟩ := hx B hB
    exact ⟨B', hB', by rw [hl]; simpa only [SlAt, hβ] using hv⟩
  | eptr tok i off cs =>
    simp only [RelC] at h ⊢
    obtain ⟨B, b, cap, hB, hb, h0, hc, hs, hv, hcell⟩ := h
    obtain ⟨hβ, hx⟩ := m.b1 _ tok hf (by simp [PC.atTok])
    obtain ⟨B', hB', hl, he⟩ := hx B hB
    refine ⟨B', b, cap, hB', by rw [hβ]; exact hb, h0, hc, by rw [he]; exact hs, by rw [he]; exact hv, ?_⟩
    rw [he, m.O]
    exact hcell.step m.F m.K fun j _ => cell_of_heap (m.b2 _ tok hf (by simp [PC.ptrTo]) B b cap hB hb)
  | fn f' caps =>
    simp only [RelC] at h ⊢
    obtain ⟨vs, hv, ha⟩ := h
    refine ⟨vs, hv, ha.imp_mem fun c u hc hr => hr.step m.O m.F m.K fun r hl => m.ρ _ r hf ?_⟩
    simp only [PC.atLoc, List.any_eq_true]
    exact ⟨c, hc, hl⟩
  | opre tok hi =>
    simp only [RelC] at h ⊢
    obtain ⟨B, hB, hh, hv⟩ := h
    obtain ⟨hβ, hx⟩ := m.b1 _ tok hf (by simp [PC.atTok])
    obtain ⟨B', hB', hl, _⟩ := hx B hB
    exact ⟨B', hB', by rw [hl]; exact hh, by simpa only [SlAt, hβ] using hv⟩
  | osuf tok lo =>
    simp only [RelC] at h ⊢
    obtain ⟨B, hB, hh, hv⟩ := h
    obtain ⟨hβ, hx⟩ := m.b1 _ tok hf (by simp [PC.atTok])
    obtain ⟨B', hB', hl, he⟩ := hx B hB
    refine ⟨B', hB', by rw [hl]; exact hh, ?_⟩
    rw [hβ, hl, he]; exact hv
  | undef => exact h
  | dead => trivial
theorem RelC.kill_step (m : Moves X X' bs bs' w w' f) (p : PC) (v : Value) (h : RelC P X bs w p v) : RelC P X' bs' w' (p.mapD f) v := by
  unfold PC.mapD
  cases hf : f p with
  | true => simp [RelC]
  | false => simpa using h.step m p v hf
theorem All2.kill_step (m : Moves X X' bs bs' w w' f) {ps : List PC} {us : List Value} (h : All2 (RelK P X bs w) ps us) : All2 (RelK P X' bs' w') (ps.map (PC.mapD f)) us :=
  All2.imp _ (fun p v hx => ⟨RelC.kill_step m p v hx.1, hx.2⟩) h
theorem RelC.one {p : PC} {v : Value} (h : RelC P X bs w p v) (h1 : p ≠ .dead) (h2 : p ≠ .undef) : v.oneCell' = true := by
  cases p with
  | d c =>
    simp only [RelC] at h
    obtain ⟨s, x⟩ := c
    cases s with
    | int k => simp only [RepS] at h; subst h; rfl
    | bool => simp only [RepS] at h; subst h; rfl
    | str => simp only [RepS] at h; subst h; rfl
    | sl e => simp only [RepS] at h; obtain ⟨a, cap, hv, _⟩ := h; subst hv; rfl
    | fn a r => simp only [RepS] at h; obtain ⟨f, caps, hv, _⟩ := h; subst hv; rfl
  | loc r off => simp only [RelC] at h; subst h; rfl
  | sref cs => simp only [RelC, SrefAt] at h; obtain ⟨b, off, hv, _⟩ := h; subst hv; rfl
  | own tok =>
    simp only [RelC, SlAt] at h
    obtain ⟨B, _, hv⟩ := h
    split at hv
    · subst hv; rfl
    · obtain ⟨_, a, hv⟩ := hv; subst hv; rfl
  | eptr tok i off cs => simp only [RelC] at h; obtain ⟨B, b, cap, _, _, _, _, _, hv, _⟩ := h; subst hv; rfl
  | fn f caps => simp only [RelC] at h; obtain ⟨vs, hv, _⟩ := h; subst hv; rfl
  | opre tok hi =>
    simp only [RelC, SlAt] at h
    obtain ⟨B, _, _, hv⟩ := h
    split at hv
    · subst hv; rfl
    · obtain ⟨_, a, hv⟩ := hv; subst hv; rfl
  | osuf tok lo =>
    simp only [RelC] at h
    obtain ⟨B, _, _, hv⟩ := h
    split at hv
    · obtain ⟨a, hv, _⟩ := hv; subst hv; rfl
    · obtain ⟨a, hv⟩ := hv; subst hv; rfl
  | undef => exact absurd rfl h2
  | dead => exact absurd rfl h1
theorem RelP.kill_step (m : Moves X X' bs bs' w w' f) (pv : PV) (v : Value) (h : RelP P X bs w pv v) : RelP P X' bs' w' (pv.mapD f) v := by
  cases pv with
  | s p => exact RelC.kill_step m p v h
  | agg ps => obtain ⟨cells, hv, ha⟩ := h; exact ⟨cells, hv, All2.kill_step m ha⟩
  | tup vs =>
    obtain ⟨us, hv, ha⟩ := h
    refine ⟨us, hv, All2.imp _ (fun x u hx => ?_) ha⟩
    obtain ⟨ag, ps⟩ := x
    cases ag with
    | true => obtain ⟨cells, hu, hc⟩ := hx; exact ⟨cells, hu, All2.kill_step m hc⟩
    | false => exact All2.kill_step m hx
theorem RowOk.kill_step (m : Moves X X' bs bs' w w' f) {r : Nat} {cells : List PC} (hρ : X'.ρ r = X.ρ r) (hF : X'.F (X.ρ r) = X.F (X.ρ r)) (hh : w'.heap[X.ρ r]? = w.heap[X.ρ r]?) (h : RowOk P X bs w r cells) :
    RowOk P X' bs' w' r (cells.map (PC.mapD f)) := by
  obtain ⟨h1, h2, cs, el, h3, h4⟩ := h
  refine ⟨by rw [hρ, m.O]; exact h1, by rw [hρ, hF]; exact h2, cs, el, by rw [hρ, hh]; exact h3, All2.kill_step m h4⟩
theorem BufOk.step (m : Moves X X' bs bs' w w' f) {tok : Nat} {B : Buf} (hβ : X'.β tok = X.β tok) (hF : ∀ b cap, X.β tok = some (b, cap) → X'.F b = X.F b ∧ w'.heap[b]? = w.heap[b]?) (h : BufOk P X w tok B) : BufOk P X' w' tok B := by
  unfold BufOk at h ⊢
  rw [hβ]
  cases hb : X.β tok with
  | none => simpa [hb] using h
  | some q =>
    obtain ⟨b, cap⟩ := q
    simp only [hb] at h ⊢
    obtain ⟨h1, h2, h3, cs, el, h4, h5, h6⟩ := h
    obtain ⟨f1, f2⟩ := hF b cap hb
    refine ⟨by rw [m.O]; exact h1, by rw [f1]; exact h2, h3, cs, el, f2.trans h4, h5, fun i hi => ?_⟩
    rw [m.O]
    exact RepV.mono (fun _ h => h) m.F m.K B.e _ _ _ (fun _ _ => rfl) (h6 i hi)
end

theorem look_map {α β : Type} (g : α → β) : ∀ (l : List (Nat × α)) (n : Nat), look (l.map fun p => (p.1, g p.2)) n = (look l n).map g
  | [], _ => rfl
  | (m, a) :: l, n => by
    simp only [List.map_cons, look]
    cases Nat.beq m n with
    | true => rfl
    | false => simpa using look_map g l n
theorem look_cons {α : Type} (m : Nat) (a : α) (l : List (Nat × α)) (n : Nat) : look ((m, a) :: l) n = if m = n then some a else look l n := by
  simp only [look]
  by_cases h : m = n
  · subst h; simp
  · have : Nat.beq m n = false := by rw [Bool.eq_false_iff]; exact fun h' => h (Nat.eq_of_beq_eq_true h')
    simp [this, h]
theorem kill_t (st : St) (f : PC → Bool) (n : Nat) : look (st.kill f).t n = (look st.t n).map (PV.mapD f) := look_map _ _ _
theorem kill_row (st : St) (f : PC → Bool) (r : Nat) : (st.kill f).row r = (st.row r).map (List.map (PC.mapD f)) := by
  unfold St.row St.kill
  simp only
  rw [look_map (fun o : Option (List PC) => o.map (List.map (PC.mapD f)))]
  cases look st.r r with
  | none => rfl
  | some o => cases o <;> rfl
theorem kill_b (st : St) (f : PC → Bool) : (st.kill f).b = st.b := rfl
end Go.PgAM

/-
  The machine's state goes on: a slot, a variable's row, a buffer, the memory behind a call.
-/
namespace Go.PgAM
open Go Go.RowKit
set_option linter.unusedVariables false

def upd {α : Type} (f : Nat → α) (n : Nat) (x : α) : Nat → α := fun m => if m = n then x else f m
theorem upd_same {α : Type} (f : Nat → α) (n : Nat) (x : α) : upd f n x n = x := by simp [upd]
theorem upd_ne {α : Type} (f : Nat → α) {n m : Nat} (x : α) (h : m ≠ n) : upd f n x m = f m := by simp [upd, h]

variable {P : Program} {Z : At0} {X X' : Cx} {st st' : St} {a : Act} {w w' : World}

theorem lt_of_heap {w : World} {b : Nat} {o : Obj} (h : w.heap[b]? = some o) : b < w.heap.size := (Array.getElem?_eq_some_iff.1 h).1
theorem Evo.keeps {F F' : Nat → Nat} (e : Evo [] F F' w w') {O : Nat → Prop} (hO : ∀ b, O b → b < w.heap.size) (hF : ∀ b, w.heap.size ≤ b → F b = 0) : Keeps O F w w' := by
  refine ⟨e.size, fun b hb => e.block b (hO b hb) (by simp), fun b o ho => ?_⟩
  have : b < w.heap.size := by
    rcases Nat.lt_or_ge b w.heap.size with h | h
    · exact h
    · have := hF b h; omega
  exact cell_of_heap (e.block b this (by simp))
theorem Evo.refl (M : List Nat) (F : Nat → Nat) (w : World) (hF : ∀ b, w.heap.size ≤ b → F b = 0) : Evo M F F w w :=
  ⟨rfl, rfl, Nat.le_refl _, rfl, Nat.le_refl _, fun _ _ _ => rfl, fun _ _ _ => rfl, fun _ => Nat.le_refl _, hF⟩
theorem Evo.trans {M : List Nat} {F F' F'' : Nat → Nat} {w w' w'' : World} (h : Evo M F F' w w') (k : Evo [] F' F'' w' w'') : Evo M F F'' w w'' :=
  ⟨k.os.trans h.os, k.tape.trans h.tape, Nat.le_trans h.drawn k.drawn, k.output.trans h.output, Nat.le_trans h.size k.size,
    fun b hb hm => (k.block b (Nat.lt_of_lt_of_le hb h.size) (by simp)).trans (h.block b hb hm),
    fun b hb hm => (k.fold b (Nat.lt_of_lt_of_le hb h.size) (by simp)).trans (h.fold b hb hm), fun b => Nat.le_trans (h.fge b) (k.fge b), k.fnew⟩

theorem Rel.fnew (h : Rel P Z X st a w) : ∀ b, w.heap.size ≤ b → X.F b = 0 := h.evo.fnew
theorem Rel.oldO (h : Rel P Z X st a w) : ∀ b, X.O b → b < w.heap.size := by
  intro b hb
  rw [h.O] at hb
  exact Nat.lt_of_lt_of_le hb.1 h.evo.size
theorem Rel.row_lt (h : Rel P Z X st a w) {r c} (hr : st.row r = some c) : X.ρ r < w.heap.size := by
  obtain ⟨_, _, cs, el, hh, _⟩ := h.r r c hr
  exact lt_of_heap hh
theorem Rel.buf_lt (h : Rel P Z X st a w) {t B b cap} (hB : look st.b t = some B) (hb : X.β t = some (b, cap)) : b < w.heap.size := by
  have := h.b t B hB
  simp only [BufOk, hb] at this
  obtain ⟨_, _, _, cs, el, hh, _⟩ := this
  exact lt_of_heap hh

theorem Moves.same (X : Cx) (bs : List (Nat × Buf)) (w : World) (f : PC → Bool) : Moves X X bs bs w w f :=
  ⟨rfl, fun _ => Nat.le_refl _, Keeps.refl _ _ _, fun _ _ _ _ => rfl, fun _ t _ _ => ⟨rfl, fun B hB => ⟨B, hB, rfl, rfl⟩⟩, fun _ _ _ _ _ _ _ _ _ => rfl⟩

theorem mapD_none : ∀ (pv : PV), pv.mapD (fun _ => false) = pv
  | .s p => rfl
  | .agg ps => by
    have : ps.map (PC.mapD fun _ => false) = ps := by
      have : (PC.mapD fun _ => false) = id := by funext p; rfl
      rw [this]; simp
    simp only [PV.mapD, this]
  | .tup vs => by
    have : (PC.mapD fun _ => false) = id := by funext p; rfl
    simp [PV.mapD, this]
theorem RelP.step {bs bs' : List (Nat × Buf)} (m : Moves X X' bs bs' w w' (fun _ => false)) {pv : PV} {v : Value} (h : RelP P X bs w pv v) : RelP P X' bs' w' pv v := by
  have := RelP.kill_step m pv v h
  rwa [mapD_none] at this
theorem RelK.step' {bs bs' : List (Nat × Buf)} (m : Moves X X' bs bs' w w' (fun _ => false)) {ps : List PC} {us : List Value} (h : All2 (RelK P X bs w) ps us) : All2 (RelK P X' bs' w') ps us :=
  All2.imp' (fun p v hx => ⟨RelC.step m p v rfl hx.1, hx.2⟩) h
theorem RowOk.step {bs bs' : List (Nat × Buf)} (m : Moves X X' bs bs' w w' (fun _ => false)) {r : Nat} {cells : List PC} (hρ : X'.ρ r = X.ρ r) (hF : X'.F (X.ρ r) = X.F (X.ρ r)) (hh : w'.heap[X.ρ r]? = w.heap[X.ρ r]?) (h : RowOk P X bs w r cells) :
    RowOk P X' bs' w' r cells := by
  obtain ⟨h1, h2, cs, el, h3, h4⟩ := h
  exact ⟨by rw [hρ, m.O]; exact h1, by rw [hρ, hF]; exact h2, cs, el, by rw [hρ, hh]; exact h3, RelK.step' m h4⟩

theorem kill_row_some {st : St} {f : PC → Bool} {r : Nat} {c : List PC} (h : (st.kill f).row r = some c) : ∃ c', st.row r = some c' ∧ c = c'.map (PC.mapD f) := by
  rw [kill_row] at h
  cases hr : st.row r with
  | none => simp [hr] at h
  | some c' => simp [hr] at h; exact ⟨c', rfl, h.symm⟩
theorem kill_t_some {st : St} {f : PC → Bool} {n : Nat} {pv : PV} (h : look (st.kill f).t n = some pv) : ∃ pv', look st.t n = some pv' ∧ pv = pv'.mapD f := by
  rw [kill_t] at h
  cases hr : look st.t n with
  | none => simp [hr] at h
  | some c' => simp [hr] at h; exact ⟨c', rfl, h.symm⟩

/-- What a test names is known no more. -/
theorem Rel.kill (h : Rel P Z X st a w) (f : PC → Bool) : Rel P Z X (st.kill f) a w := by
  have m := Moves.same X st.b w f
  refine { O := h.O, evo := h.evo, nt := h.nt, defers := h.defers, t := ?_, r := ?_, b := h.b, rr := ?_, rb := ?_, bb := h.bb }
  · intro n pv hn
    obtain ⟨pv', hn', rfl⟩ := kill_t_some hn
    exact RelP.kill_step m _ _ (h.t n _ hn')
  · intro r c hr
    obtain ⟨c', hr', rfl⟩ := kill_row_some hr
    exact RowOk.kill_step m rfl rfl rfl (h.r r _ hr')
  · intro r r' c c' hr hr'
    obtain ⟨_, hr, _⟩ := kill_row_some hr
    obtain ⟨_, hr', _⟩ := kill_row_some hr'
    exact h.rr r r' _ _ hr hr'
  · intro r c tok B b cap hr hB hb
    obtain ⟨_, hr, _⟩ := kill_row_some hr
    exact h.rb r _ tok B b cap hr hB hb

theorem getD_put (a : Act) (d : Nat) (v : Value) (n : Nat) (hd : d < a.tmps.size) : (a.put (some d) v).tmps.getD n Go.undef = if n = d then v else a.tmps.getD n Go.undef := by
  simp only [Act.put, Array.getD_eq_getD_getElem?, Array.getElem?_setIfInBounds]
  by_cases h : d = n
  · subst h; simp [hd]
  · have : ¬ n = d := fun e => h e.symm
    simp [h, this]
theorem size_put (a : Act) (d : Option Nat) (v : Value) : (a.put d v).tmps.size = a.tmps.size := by cases d <;> simp [Act.put]
theorem defers_put (a : Act) (d : Option Nat) (v : Value) : (a.put d v).defers = a.defers := by cases d <;> rfl

theorem Frm.put (h : Frm Z a) {d : Nat} (hd : Z.ok d) {v : Value} : Frm Z (a.put (some d) v) := by
  refine ⟨by rw [size_put]; exact h.size, fun n hn => ?_⟩
  rw [getD_put a d v n (Nat.lt_of_lt_of_le hd.1 h.size), if_neg (fun e => by have := hd.2; omega)]
  exact h.arg n hn
/-- A slot gets a value. -/
theorem Rel.put (h : Rel P Z X st a w) {d : Nat} (hd : Z.ok d) {pv : PV} {v : Value} (hv : RelP P X st.b w pv v) : Rel P Z X (st.setT (some d) pv) (a.put (some d) v) w := by
  refine { O := h.O, evo := h.evo, nt := h.nt.put hd, defers := by rw [defers_put]; exact h.defers, t := ?_, r := h.r, b := h.b, rr := h.rr, rb := h.rb, bb := h.bb }
  intro n pv' hn
  rw [getD_put a d v n (Nat.lt_of_lt_of_le hd.1 h.nt.size)]
  simp only [St.setT, look_cons] at hn
  by_cases hnd : d = n
  · subst hnd; simp at hn; subst hn; simp only [if_true]; exact hv
  · have : ¬ n = d := fun e => hnd e.symm
    simp only [hnd, if_false] at hn
    simp only [this, if_false]
    exact h.t n pv' hn
theorem Rel.put' (h : Rel P Z X st a w) {d : Option Nat} (hd : ∀ n, d = some n → Z.ok n) {pv : PV} {v : Value} (hv : RelP P X st.b w pv v) : Rel P Z X (st.setT d pv) (a.put d v) w := by
  cases d with
  | none => exact h
  | some d => exact h.put (hd d rfl) hv

theorem Rel.grow_moves (h : Rel P Z X st a w) {F' : Nat → Nat} (e : Evo [] X.F F' w w') (f : PC → Bool) : Moves X { X with F := F' } st.b st.b w w' f :=
  ⟨rfl, e.fge, e.keeps h.oldO h.fnew, fun _ _ _ _ => rfl, fun _ t _ _ => ⟨rfl, fun B hB => ⟨B, hB, rfl, rfl⟩⟩, fun p t _ ht B b cap hB hb => e.block b (h.buf_lt hB hb) (by simp)⟩
/-- New memory alone: all that was known is known. -/
theorem Rel.grow (h : Rel P Z X st a w) {F' : Nat → Nat} (e : Evo [] X.F F' w w') : Rel P Z { X with F := F' } st a w' := by
  have m := h.grow_moves e (fun _ => false)
  refine { O := h.O, evo := h.evo.trans e, nt := h.nt, defers := h.defers, t := fun n pv hn => RelP.step m (h.t n pv hn), r := fun r c hr => ?_, b := fun t B hB => ?_, rr := h.rr, rb := h.rb, bb := h.bb }
  · exact RowOk.step m rfl (e.fold _ (h.row_lt hr) (by simp)) (e.block _ (h.row_lt hr) (by simp)) (h.r r c hr)
  · exact BufOk.step m rfl (fun b cap hb => ⟨e.fold _ (h.buf_lt hB hb) (by simp), e.block _ (h.buf_lt hB hb) (by simp)⟩) (h.b t B hB)

theorem alloc_evo (F : Nat → Nat) (w : World) (o : Obj) (hF : ∀ b, w.heap.size ≤ b → F b = 0) : Evo [] F F w (w.alloc o) :=
  ⟨rfl, rfl, Nat.le_refl _, rfl, by simp, fun b hb _ => by
    have := World.alloc_eq w o
    simp only [World.alloc, Array.getElem?_push]
    rw [if_neg (by omega)], fun _ _ _ => rfl, fun _ => Nat.le_refl _, fun b hb => hF b (by simp at hb; omega)⟩
theorem alloc_new (w : World) (o : Obj) : (w.alloc o).heap[w.heap.size]? = some o := by simp only [World.alloc]; exact Array.getElem?_push_size

/-- A new variable, with cells that are known. -/
theorem Rel.newRow (h : Rel P Z X st a w) {d : Nat} (hd : Z.ok d) {cells : List PC} {cs : Array Value} (el : TypeId) (hc : All2 (RelK P X st.b w) cells cs.toList) :
    Rel P Z { X with ρ := upd X.ρ d w.heap.size } (st.newRow d cells) (a.put (some d) (.pointer (some ⟨w.heap.size, 0, none⟩))) (w.alloc (.cells cs el)) := by
  have e := alloc_evo X.F w (.cells cs el) h.fnew
  have m0 := h.grow_moves e (PC.atLoc d)
  have m : Moves X { X with ρ := upd X.ρ d w.heap.size } st.b st.b w (w.alloc (.cells cs el)) (PC.atLoc d) := by
    refine ⟨rfl, m0.F, m0.K, fun p r hp hr => ?_, m0.b1, m0.b2⟩
    refine upd_ne _ _ fun e => ?_
    subst e; rw [hp] at hr; simp at hr
  have hrow : ∀ r c, (st.newRow d cells).row r = some c → (r = d ∧ c = cells.map (PC.mapD (PC.atLoc d))) ∨ (r ≠ d ∧ ∃ c', st.row r = some c' ∧ c = c'.map (PC.mapD (PC.atLoc d))) := by
    intro r c hr
    simp only [St.newRow, St.row, look_cons] at hr
    by_cases hrd : d = r
    · subst hrd; simp at hr; exact .inl ⟨rfl, hr.symm⟩
    · simp only [hrd, if_false] at hr
      exact .inr ⟨fun e => hrd e.symm, kill_row_some (st := st) (f := PC.atLoc d) hr⟩
  have hρ : ∀ r c, st.row r = some c → X.ρ r ≠ w.heap.size := fun r c hr => by have := h.row_lt hr; omega
  refine { O := h.O, evo := h.evo.trans e, nt := h.nt.put hd, defers := by rw [defers_put]; exact h.defers, t := ?_, r := ?_, b := ?_, rr := ?_, rb := ?_, bb := h.bb }
  · intro n pv hn
    rw [getD_put a d _ n (Nat.lt_of_lt_of_le hd.1 h.nt.size)]
    simp only [St.newRow, look_cons] at hn
    by_cases hnd : d = n
    · subst hnd; simp at hn; subst hn; simp [RelP, RelC, upd_same]
    · have : ¬ n = d := fun e => hnd e.symm
      simp only [hnd, if_false] at hn
      simp only [this, if_false]
      obtain ⟨pv', hn', rfl⟩ := kill_t_some hn
      exact RelP.kill_step m _ _ (h.t n _ hn')
  · intro r c hr
    rcases hrow r c hr with ⟨rfl, rfl⟩ | ⟨hne, c', hr', rfl⟩
    · refine ⟨?_, ?_, cs, el, ?_, All2.kill_step m hc⟩
      · simp only [upd_same]; intro hO; exact absurd (h.oldO _ hO) (by omega)
      · simp only [upd_same]; exact h.fnew _ (Nat.le_refl _)
      · simp only [upd_same]; exact alloc_new w _
    · exact RowOk.kill_step m (upd_ne _ _ hne) rfl (e.block _ (h.row_lt hr') (by simp)) (h.r r c' hr')
  · intro t B hB
    exact BufOk.step m rfl (fun b cap hb => ⟨rfl, e.block _ (h.buf_lt hB hb) (by simp)⟩) (h.b t B hB)
  · intro r r' c c' hr hr' hne
    rcases hrow r c hr with ⟨rfl, _⟩ | ⟨h1, c1, hr1, _⟩ <;> rcases hrow r' c' hr' with ⟨rfl, _⟩ | ⟨h2, c2, hr2, _⟩
    · exact absurd rfl hne
    · simp only [upd_same, upd_ne _ _ h2]; exact fun e => hρ _ _ hr2 e.symm
    · simp only [upd_same, upd_ne _ _ h1]; exact hρ _ _ hr1
    · simp only [upd_ne _ _ h1, upd_ne _ _ h2]; exact h.rr r r' _ _ hr1 hr2 hne
  · intro r c tok B b cap hr hB hb
    rcases hrow r c hr with ⟨rfl, _⟩ | ⟨h1, c1, hr1, _⟩
    · simp only [upd_same]; have := h.buf_lt hB hb; omega
    · simp only [upd_ne _ _ h1]; exact h.rb r c1 tok B b cap hr1 hB hb

/-- A buffer's number gets a new buffer: nothing, or a block that nothing else has. -/
theorem Rel.newBuf (h : Rel P Z X st a w) (tok : Nat) (B : Buf) (q : Option (Nat × Nat)) (hB : BufOk P { X with β := upd X.β tok q } w tok B)
    (hr : ∀ b cap, q = some (b, cap) → ∀ r c, st.row r = some c → X.ρ r ≠ b) (hb : ∀ b cap, q = some (b, cap) → ∀ t B' b' cap', t ≠ tok → look st.b t = some B' → X.β t = some (b', cap') → b' ≠ b) :
    Rel P Z { X with β := upd X.β tok q } (st.newBuf tok B) a w := by
  have m : Moves X { X with β := upd X.β tok q } st.b (st.newBuf tok B).b w w (PC.atTok tok) := by
    refine ⟨rfl, fun _ => Nat.le_refl _, Keeps.refl _ _ _, fun _ _ _ _ => rfl, fun p t hp ht => ?_, fun _ _ _ _ _ _ _ _ _ => rfl⟩
    have hne : t ≠ tok := fun e => by subst e; rw [hp] at ht; simp at ht
    refine ⟨upd_ne _ _ hne, fun B' hB' => ⟨B', ?_, rfl, rfl⟩⟩
    simp only [St.newBuf, Go.PgAM.put, look_cons, kill_b]
    rw [if_neg (fun e => hne e.symm)]; exact hB'
  have hlook : ∀ t B', look (st.newBuf tok B).b t = some B' → (t = tok ∧ B' = B) ∨ (t ≠ tok ∧ look st.b t = some B') := by
    intro t B' ht
    simp only [St.newBuf, Go.PgAM.put, look_cons, kill_b] at ht
    by_cases e : tok = t
    · subst e; simp at ht; exact .inl ⟨rfl, ht.symm⟩
    · simp only [e, if_false] at ht; exact .inr ⟨fun x => e x.symm, ht⟩
  refine { O := h.O, evo := h.evo, nt := h.nt, defers := h.defers, t := ?_, r := ?_, b := ?_, rr := ?_, rb := ?_, bb := ?_ }
  · intro n pv hn
    obtain ⟨pv', hn', rfl⟩ := kill_t_some (st := st) (f := PC.atTok tok) hn
    exact RelP.kill_step m _ _ (h.t n _ hn')
  · intro r c hr
    obtain ⟨c', hr', rfl⟩ := kill_row_some (st := st) (f := PC.atTok tok) hr
    exact RowOk.kill_step m rfl rfl rfl (h.r r _ hr')
  · intro t B' ht
    rcases hlook t B' ht with ⟨rfl, rfl⟩ | ⟨hne, ht⟩
    · exact hB
    · exact BufOk.step m (upd_ne _ _ hne) (fun _ _ _ => ⟨rfl, rfl⟩) (h.b t B' ht)
  · intro r r' c c' hr hr'
    obtain ⟨_, hr, _⟩ := kill_row_some (st := st) (f := PC.atTok tok) hr
    obtain ⟨_, hr', _⟩ := kill_row_some (st := st) (f := PC.atTok tok) hr'
    exact h.rr r r' _ _ hr hr'
  · intro r c t B' b cap hr0 ht0 hβ
    obtain ⟨_, hr2, _⟩ := kill_row_some (st := st) (f := PC.atTok tok) hr0
    rcases hlook t B' ht0 with ⟨e1, e2⟩ | ⟨hne, ht⟩
    · subst e1; simp only [upd_same] at hβ; exact hr b cap hβ r _ hr2
    · simp only [upd_ne _ _ hne] at hβ; exact h.rb r _ t B' b cap hr2 ht hβ
  · intro t t' B1 B2 b cap b' cap' h1 h2 hβ hβ' hne
    rcases hlook t B1 h1 with ⟨e1, _⟩ | ⟨n1, k1⟩ <;> rcases hlook t' B2 h2 with ⟨e2, _⟩ | ⟨n2, k2⟩
    · exact absurd (e1.trans e2.symm) hne
    · subst e1; simp only [upd_same] at hβ; simp only [upd_ne _ _ n2] at hβ'
      exact fun e => hb b cap hβ t' B2 b' cap' n2 k2 hβ' e.symm
    · subst e2; simp only [upd_same] at hβ'; simp only [upd_ne _ _ n1] at hβ
      exact hb b' cap' hβ' t B1 b cap n1 k1 hβ
    · simp only [upd_ne _ _ n1] at hβ; simp only [upd_ne _ _ n2] at hβ'
      exact h.bb t t' B1 B2 b cap b' cap' k1 k2 hβ hβ' hne

theorem BufOk.nil (X : Cx) (w : World) (tok : Nat) (x : Bool) (e : VT) (h : X.β tok = none) : BufOk P X w tok ⟨x, e, []⟩ := by
  simp [BufOk, h]
theorem Rel.newNil (h : Rel P Z X st a w) (tok : Nat) (x : Bool) (e : VT) : Rel P Z { X with β := upd X.β tok none } (st.newBuf tok ⟨x, e, []⟩) a w :=
  h.newBuf tok _ none (BufOk.nil _ _ _ _ _ (upd_same _ _ _)) (by simp) (by simp)

theorem setRow_evo (M : List Nat) (F F' : Nat → Nat) (w : World) (b : Nat) (cs : Array Value) : (w.setRow b cs).heap.size = w.heap.size := setRow_size w b cs
/-- A variable's cells turn. -/
theorem Rel.setRow (h : Rel P Z X st a w) {r : Nat} {cells cells' : List PC} (hr : st.row r = some cells) {cs' : Array Value} (hc : All2 (RelK P X st.b w) cells' cs'.toList) :
    Rel P Z X { st with r := (r, some cells') :: st.r } a (w.setRow (X.ρ r) cs') := by
  obtain ⟨hO, hF, cs, el, hh, _⟩ := h.r r cells hr
  have hoth : ∀ b, b ≠ X.ρ r → (w.setRow (X.ρ r) cs').heap[b]? = w.heap[b]? := fun b hb => setRow_other w _ b _ hb
  have hK : Keeps X.O X.F w (w.setRow (X.ρ r) cs') := by
    refine ⟨by simp, fun b hb => hoth b fun e => hO (e ▸ hb), fun b o ho => cell_of_heap (hoth b fun e => ?_)⟩
    rw [e, hF] at ho; omega
  have m : Moves X X st.b st.b w (w.setRow (X.ρ r) cs') (fun _ => false) :=
    ⟨rfl, fun _ => Nat.le_refl _, hK, fun _ _ _ _ => rfl, fun _ t _ _ => ⟨rfl, fun B hB => ⟨B, hB, rfl, rfl⟩⟩, fun p t _ ht B b cap hB hb => hoth b fun e => h.rb r cells t B b cap hr hB hb e.symm⟩
  have hrow : ∀ r' c, ({ st with r := (r, some cells') :: st.r } : St).row r' = some c → (r' = r ∧ c = cells') ∨ (r' ≠ r ∧ st.row r' = some c) := by
    intro r' c hr'
    simp only [St.row, look_cons] at hr'
    by_cases e : r = r'
    · subst e; simp at hr'; exact .inl ⟨rfl, hr'.symm⟩
    · simp only [e, if_false] at hr'; exact .inr ⟨fun x => e x.symm, hr'⟩
  refine { O := h.O, evo := ?_, nt := h.nt, defers := h.defers, t := fun n pv hn => RelP.step m (h.t n pv hn), r := ?_, b := ?_, rr := ?_, rb := ?_, bb := h.bb }
  · refine ⟨h.evo.os, h.evo.tape, h.evo.drawn, h.evo.output, by simpa using h.evo.size, fun b hb hm => ?_, h.evo.fold, h.evo.fge, by simpa using h.evo.fnew⟩
    rw [hoth b fun e => hO (by rw [h.O]; exact ⟨e ▸ hb, e ▸ hm⟩)]
    exact h.evo.block b hb hm
  · intro r' c hr'
    rcases hrow r' c hr' with ⟨rfl, rfl⟩ | ⟨hne, hr'⟩
    · exact ⟨hO, hF, cs', el, setRow_heap w _ cs cs' el _ hh, RelK.step' m hc⟩
    · exact RowOk.step m rfl rfl (hoth _ fun e => h.rr r' r c cells hr' hr hne e) (h.r r' c hr')
  · intro t B hB
    exact BufOk.step m rfl (fun b cap hb => ⟨rfl, hoth b fun e => h.rb r cells t B b cap hr hB hb e.symm⟩) (h.b t B hB)
  · intro r1 r2 c1 c2 h1 h2 hne
    rcases hrow r1 c1 h1 with ⟨e1, _⟩ | ⟨n1, k1⟩ <;> rcases hrow r2 c2 h2 with ⟨e2, _⟩ | ⟨n2, k2⟩
    · exact absurd (e1.trans e2.symm) hne
    · subst e1; exact h.rr _ _ _ _ hr k2 hne
    · subst e2; exact h.rr _ _ _ _ k1 hr hne
    · exact h.rr _ _ _ _ k1 k2 hne
  · intro r1 c1 t B b cap h1 hB hb
    rcases hrow r1 c1 h1 with ⟨e1, _⟩ | ⟨n1, k1⟩
    · subst e1; exact h.rb _ _ t B b cap hr hB hb
    · exact h.rb _ _ t B b cap k1 hB hb

/-- A buffer's cells turn, behind what is frozen of them. -/
theorem Rel.setBuf (h : Rel P Z X st a w) {tok b cap : Nat} {B B' : Buf} (hB : look st.b tok = some B) (hb : X.β tok = some (b, cap)) (f : PC → Bool)
    {cs cs' : Array Value} {el : TypeId} (hh : w.heap[b]? = some (.cells cs el (0, 0))) (hfz : ∀ o, o < X.F b → cs'[o]? = cs[o]?)
    (hf1 : ∀ p, f p = false → PC.ptrTo tok p = false) (hf2 : ∀ p, f p = false → PC.atTok tok p = true → B'.xs.length = B.xs.length ∧ B'.e = B.e)
    (hB' : BufOk P X (w.setRow b cs') tok B') :
    Rel P Z X { st.kill f with b := (tok, B') :: st.b } a (w.setRow b cs') := by
  have hbok := h.b tok B hB
  simp only [BufOk, hb] at hbok
  obtain ⟨hO, _, _, _⟩ := hbok
  have hoth : ∀ b', b' ≠ b → (w.setRow b cs').heap[b']? = w.heap[b']? := fun b' hb' => setRow_other w _ b' _ hb'
  have hnew := setRow_heap w b cs cs' el (0, 0) hh
  have hK : Keeps X.O X.F w (w.setRow b cs') := by
    refine ⟨by simp, fun b' hb' => hoth b' fun e => hO (e ▸ hb'), fun b' o ho => ?_⟩
    by_cases e : b' = b
    · subst e; simp only [World.cell?, hnew, hh]; simpa using hfz o ho
    · exact cell_of_heap (hoth b' e)
  have hl : ∀ t, t ≠ tok → look ((tok, B') :: st.b) t = look st.b t := fun t ht => by rw [look_cons, if_neg (fun e => ht e.symm)]
  have m : Moves X X st.b ((tok, B') :: st.b) w (w.setRow b cs') f := by
    refine ⟨rfl, fun _ => Nat.le_refl _, hK, fun _ _ _ _ => rfl, fun p t hp ht => ⟨rfl, fun B1 hB1 => ?_⟩, fun p t hp ht B1 b1 cap1 hB1 hb1 => ?_⟩
    · by_cases e : t = tok
      · subst e
        obtain ⟨h1, h2⟩ := hf2 p hp ht
        rw [hB] at hB1; cases hB1
        exact ⟨B', by simp [look_cons], h1, h2⟩
      · exact ⟨B1, by rw [hl t e]; exact hB1, rfl, rfl⟩
    · refine hoth b1 fun e => ?_
      have hne : t ≠ tok := fun e => by subst e; rw [hf1 p hp] at ht; simp at ht
      exact h.bb t tok B1 B b1 cap1 b cap hB1 hB hb1 hb hne e
  have hlook : ∀ t B1, look ((tok, B') :: st.b) t = some B1 → (t = tok ∧ B1 = B') ∨ (t ≠ tok ∧ look st.b t = some B1) := by
    intro t B1 ht
    rw [look_cons] at ht
    by_cases e : tok = t
    · subst e; simp at ht; exact .inl ⟨rfl, ht.symm⟩
    · simp only [e, if_false] at ht; exact .inr ⟨fun x => e x.symm, ht⟩
  refine { O := h.O, evo := ?_, nt := h.nt, defers := h.defers, t := ?_, r := ?_, b := ?_, rr := ?_, rb := ?_, bb := ?_ }
  · refine ⟨h.evo.os, h.evo.tape, h.evo.drawn, h.evo.output, by simpa using h.evo.size, fun b' hb' hm => ?_, h.evo.fold, h.evo.fge, by simpa using h.evo.fnew⟩
    rw [hoth b' fun e => hO (by rw [h.O]; exact ⟨e ▸ hb', e ▸ hm⟩)]
    exact h.evo.block b' hb' hm
  · intro n pv hn
    obtain ⟨pv', hn', rfl⟩ := kill_t_some (st := st) (f := f) hn
    exact RelP.kill_step m _ _ (h.t n _ hn')
  · intro r c hr
    obtain ⟨c', hr', rfl⟩ := kill_row_some (st := st) (f := f) hr
    exact RowOk.kill_step m rfl rfl (hoth _ fun e => h.rb r c' tok B b cap hr' hB hb e) (h.r r _ hr')
  · intro t B1 ht
    rcases hlook t B1 ht with ⟨rfl, rfl⟩ | ⟨hne, ht⟩
    · exact hB'
    · exact BufOk.step m rfl (fun b1 cap1 hb1 => ⟨rfl, hoth b1 fun e => h.bb t tok B1 B b1 cap1 b cap ht hB hb1 hb hne e⟩) (h.b t B1 ht)
  · intro r r' c c' hr hr'
    obtain ⟨_, hr, _⟩ := kill_row_some (st := st) (f := f) hr
    obtain ⟨_, hr', _⟩ := kill_row_some (st := st) (f := f) hr'
    exact h.rr r r' _ _ hr hr'
  · intro r c t B1 b1 cap1 hr ht hβ
    obtain ⟨_, hr2, _⟩ := kill_row_some (st := st) (f := f) hr
    rcases hlook t B1 ht with ⟨e1, _⟩ | ⟨hne, k1⟩
    · subst e1; exact h.rb r _ t B b1 cap1 hr2 hB hβ
    · exact h.rb r _ t B1 b1 cap1 hr2 k1 hβ
  · intro t t' B1 B2 b1 cap1 b2 cap2 h1 h2 hβ hβ' hne
    rcases hlook t B1 h1 with ⟨e1, _⟩ | ⟨n1, k1⟩ <;> rcases hlook t' B2 h2 with ⟨e2, _⟩ | ⟨n2, k2⟩
    · exact absurd (e1.trans e2.symm) hne
    · subst e1; exact h.bb _ _ _ _ _ _ _ _ hB k2 hβ hβ' hne
    · subst e2; exact h.bb _ _ _ _ _ _ _ _ k1 hB hβ hβ' hne
    · exact h.bb _ _ _ _ _ _ _ _ k1 k2 hβ hβ' hne
end Go.PgAM

/-
  What a call is shown and what it hands back.
-/
namespace Go.PgAM
open Go Go.RowKit
set_option linter.unusedVariables false
variable {P : Program} {Z : At0} {X X' : Cx} {st st' : St} {a : Act} {w w' : World}

theorem DC.as_some {c : DC} {s : Sc} {x : s.I} (h : c.as s = some x) : c = ⟨s, x⟩ := by
  obtain ⟨s', y⟩ := c
  unfold DC.as at h
  simp only at h
  split at h
  · rename_i e _
    subst e; simp at h; subst h; rfl
  · simp at h
theorem castL_some {e e' : VT} {xs : List e.I} {ys : List e'.I} (h : castL e e' xs = some ys) : ∃ p : e = e', p ▸ xs = ys := by
  unfold castL at h
  split at h
  · rename_i p _; exact ⟨p, by simpa using h⟩
  · simp at h

/-- The buffer as a list that is not written any more. -/
theorem Rel.snap (h : Rel P Z X st a w) {F' : Nat → Nat} (hF : ∀ b, X.F b ≤ F' b) {tok : Nat} {B : Buf} {v : Value} (hB : look st.b tok = some B) (hv : SlAt X.β tok B.xs.length v)
    (hb : ∀ b cap, X.β tok = some (b, cap) → B.xs.length * B.e.size ≤ F' b) : RepS P (.sl B.e) X.O F' w B.xs v := by
  have hok := h.b tok B hB
  simp only [RepS]
  unfold SlAt at hv
  unfold BufOk at hok
  cases hβ : X.β tok with
  | none =>
    simp only [hβ] at hv hok
    obtain ⟨h0, a', hv⟩ := hv
    exact ⟨a', 0, by rw [hv, h0], Nat.le_of_eq h0, .inl h0⟩
  | some q =>
    obtain ⟨b, cap⟩ := q
    simp only [hβ] at hv hok
    obtain ⟨_, _, hcap, cs, el, hh, hs, hel⟩ := hok
    refine ⟨_, cap, hv, hcap, .inr ⟨b, 0, rfl, by have := hb b cap hβ; omega, fun i hi => ?_⟩⟩
    refine RepV.mono (fun _ h => h) hF (Keeps.refl _ _ _) B.e _ _ _ (fun j hj => ?_) (hel i hi)
    simp [World.cell?, hh]

/-- The buffers of a list are shown from now on. -/
theorem Rel.share1 (h : Rel P Z X st a w) {tok : Nat} {B : Buf} (hB : look st.b tok = some B) :
    ∃ F', (∀ b, X.F b ≤ F' b) ∧ (∀ b, (∀ cap, X.β tok ≠ some (b, cap)) → F' b = X.F b) ∧ (∀ b cap, X.β tok = some (b, cap) → B.xs.length * B.e.size ≤ F' b) ∧
      Rel P Z { X with F := F' } { st with b := Go.PgAM.put st.b tok { B with x := false } } a w := by
  have hlook : ∀ t B', look (Go.PgAM.put st.b tok { B with x := false }) t = some B' → (t = tok ∧ B' = { B with x := false }) ∨ (t ≠ tok ∧ look st.b t = some B') := by
    intro t B1 ht
    rw [Go.PgAM.put, look_cons] at ht
    by_cases e : tok = t
    · subst e; simp at ht; exact .inl ⟨rfl, ht.symm⟩
    · simp only [e, if_false] at ht; exact .inr ⟨fun x => e x.symm, ht⟩
  have mk : ∀ F' : Nat → Nat, (∀ b, X.F b ≤ F' b) → (∀ b, (∀ cap, X.β tok ≠ some (b, cap)) → F' b = X.F b) → (∀ b cap, X.β tok = some (b, cap) → F' b ≤ B.xs.length * B.e.size) →
      Rel P Z { X with F := F' } { st with b := Go.PgAM.put st.b tok { B with x := false } } a w := by
    intro F' hF hFo hFb
    have m : Moves X { X with F := F' } st.b (Go.PgAM.put st.b tok { B with x := false }) w w (fun _ => false) := by
      refine ⟨rfl, hF, Keeps.refl _ _ _, fun _ _ _ _ => rfl, fun p t _ _ => ⟨rfl, fun B1 hB1 => ?_⟩, fun _ _ _ _ _ _ _ _ _ => rfl⟩
      by_cases e : t = tok
      · subst e; rw [hB] at hB1; cases hB1; exact ⟨{ B with x := false }, by simp [Go.PgAM.put, look_cons], rfl, rfl⟩
      · exact ⟨B1, by rw [Go.PgAM.put, look_cons, if_neg (fun x => e x.symm)]; exact hB1, rfl, rfl⟩
    have hb_old : ∀ b, X.O b → ∀ cap, X.β tok ≠ some (b, cap) := by
      intro b hO cap e
      have := h.b tok B hB
      simp only [BufOk, e] at this
      exact this.1 hO
    refine { O := h.O, evo := ?_, nt := h.nt, defers := h.defers, t := fun n pv hn => RelP.step m (h.t n pv hn), r := fun r c hr => ?_, b := fun t B1 ht => ?_, rr := h.rr, rb := ?_, bb := ?_ }
    · refine ⟨h.evo.os, h.evo.tape, h.evo.drawn, h.evo.output, h.evo.size, h.evo.block, fun b hb hm => ?_, fun b => Nat.le_trans (h.evo.fge b) (hF b), fun b hb => ?_⟩
      · rw [show ({ X with F := F' } : Cx).F b = F' b from rfl, hFo b (hb_old b (by rw [h.O]; exact ⟨hb, hm⟩))]; exact h.evo.fold b hb hm
      · show F' b = 0
        rw [hFo b fun cap e => by have := h.buf_lt hB e; omega]; exact h.evo.fnew b hb
    · exact RowOk.step m rfl (hFo _ fun cap e => h.rb r c tok B _ cap hr hB e rfl) rfl (h.r r c hr)
    · rcases hlook t B1 ht with ⟨e, e2⟩ | ⟨hne, ht⟩
      · subst e; subst e2
        have hok := h.b t B hB
        unfold BufOk at hok ⊢
        show match X.β t with | none => _ | some (b, cap) => _
        cases hβ : X.β t with
        | none => simpa [hβ] using hok
        | some q =>
          obtain ⟨b, cap⟩ := q
          simp only [hβ] at hok ⊢
          obtain ⟨h1, h2, h3, cs, el, h4, h5, h6⟩ := hok
          exact ⟨h1, by simpa using hFb b cap hβ, h3, cs, el, h4, h5, fun i hi => RepV.mono (fun _ h => h) hF (Keeps.refl _ _ _) B.e _ _ _ (fun _ _ => rfl) (h6 i hi)⟩
      · exact BufOk.step m rfl (fun b cap hb => ⟨hFo b fun cap' e => h.bb t tok B1 B b cap b cap' ht hB hb e hne rfl, rfl⟩) (h.b t B1 ht)
    · intro r c t B1 b cap hr ht hβ
      rcases hlook t B1 ht with ⟨e, _⟩ | ⟨hne, ht⟩
      · subst e; exact h.rb r c t B b cap hr hB hβ
      · exact h.rb r c t B1 b cap hr ht hβ
    · intro t t' B1 B2 b cap b' cap' h1 h2 hβ hβ' hne
      rcases hlook t B1 h1 with ⟨e1, _⟩ | ⟨n1, k1⟩ <;> rcases hlook t' B2 h2 with ⟨e2, _⟩ | ⟨n2, k2⟩
      · exact absurd (e1.trans e2.symm) hne
      · subst e1; exact h.bb _ _ _ _ _ _ _ _ hB k2 hβ hβ' hne
      · subst e2; exact h.bb _ _ _ _ _ _ _ _ k1 hB hβ hβ' hne
      · exact h.bb _ _ _ _ _ _ _ _ k1 k2 hβ hβ' hne
  cases hβ : X.β tok with
  | none =>
    refine ⟨X.F, fun _ => Nat.le_refl _, fun _ _ => rfl, by simp, mk X.F (fun _ => Nat.le_refl _) (fun _ _ => rfl) (by simp [hβ])⟩
  | some q =>
    obtain ⟨b, cap⟩ := q
    have hok := h.b tok B hB
    simp only [BufOk, hβ] at hok
    have hFB : X.F b ≤ B.xs.length * B.e.size := by
      have h2 := hok.2.1
      split at h2
      · omega
      · exact h2
    refine ⟨upd X.F b (B.xs.length * B.e.size), fun b' => ?_, fun b' hb' => ?_, fun b' cap' e => ?_, mk _ (fun b' => ?_) (fun b' hb' => ?_) (fun b' cap' e => ?_)⟩
    · unfold upd; split
      · rename_i e; subst e; exact hFB
      · exact Nat.le_refl _
    · exact upd_ne _ _ fun e => hb' cap (by rw [e])
    · cases e; simp [upd_same]
    · unfold upd; split
      · rename_i e; subst e; exact hFB
      · exact Nat.le_refl _
    · exact upd_ne _ _ fun e => hb' cap (by rw [hβ, e])
    · rw [hβ] at e; cases e; simp [upd_same]

theorem Rel.share : ∀ (ts : List Nat) {X : Cx} {st : St}, Rel P Z X st a w →
    ∃ F', (∀ b, X.F b ≤ F' b) ∧ (∀ b, (∀ t B cap, t ∈ ts → look st.b t = some B → X.β t ≠ some (b, cap)) → F' b = X.F b) ∧
      (∀ t B b cap, t ∈ ts → look st.b t = some B → X.β t = some (b, cap) → B.xs.length * B.e.size ≤ F' b) ∧
      Rel P Z { X with F := F' } (st.share ts) a w
  | [], X, st, h => ⟨X.F, fun _ => Nat.le_refl _, fun _ _ => rfl, by simp, h⟩
  | t :: ts, X, st, h => by
    simp only [St.share]
    cases hB : look st.b t with
    | none =>
      obtain ⟨F', h1, h2, h3, h4⟩ := Rel.share ts h
      refine ⟨F', h1, fun b hb => h2 b fun t' B cap ht => hb t' B cap (by simp [ht]), fun t' B b cap ht hB' => ?_, h4⟩
      rcases List.mem_cons.1 ht with e | ht
      · subst e; rw [hB] at hB'; cases hB'
      · exact h3 t' B b cap ht hB'
    | some B =>
      obtain ⟨F1, k1, k2, k3, k4⟩ := h.share1 hB
      obtain ⟨F', h1, h2, h3, h4⟩ := Rel.share ts k4
      have hl : ∀ t' B', look st.b t' = some B' → ∃ x, look (Go.PgAM.put st.b t { B with x := false }) t' = some { B' with x := x } := by
        intro t' B' hB'
        by_cases e : t = t'
        · subst e; rw [hB] at hB'; cases hB'; exact ⟨false, by simp [Go.PgAM.put, look_cons]⟩
        · exact ⟨B'.x, by rw [Go.PgAM.put, look_cons, if_neg e]; exact hB'⟩
      refine ⟨F', fun b => Nat.le_trans (k1 b) (h1 b), fun b hb => ?_, fun t' B' b cap ht hB' hβ => ?_, h4⟩
      · rw [h2 b fun t' B' cap ht hB' => ?_]
        · exact k2 b fun cap => hb t B cap (by simp) hB
        · have : ∃ B0, look st.b t' = some B0 := by
            simp only [Go.PgAM.put, look_cons] at hB'
            by_cases e : t = t'
            · subst e; exact ⟨B, hB⟩
            · simp only [e, if_false] at hB'; exact ⟨B', hB'⟩
          obtain ⟨B0, hB0⟩ := this
          exact hb t' B0 cap (by simp [ht]) hB0
      · obtain ⟨x, hx⟩ := hl t' B' hB'
        rcases List.mem_cons.1 ht with e | ht
        · subst e; rw [hB] at hB'; cases hB'
          exact Nat.le_trans (k3 b cap hβ) (h1 b)
        · exact h3 t' { B' with x := x } b cap ht hx hβ
end Go.PgAM

/-
  What a function is handed and what it hands back; a function's literal as a value.
-/
namespace Go.PgAM
open Go Go.RowKit
set_option linter.unusedVariables false

/-- A buffer, whole: nothing, or the whole of a block of which nothing is frozen. -/
def BufVal (P : Program) (O : Nat → Prop) (F : Nat → Nat) (w : World) (e : VT) (xs : List e.I) (v : Value) : Option (Nat × Nat) → Prop
  | none => xs.length = 0 ∧ ∃ a, v = .slice a 0 0
  | some (b, cap) => v = .slice (some ⟨b, 0, none⟩) xs.length cap ∧ F b = 0 ∧ xs.length ≤ cap ∧
      ∃ cs el, w.heap[b]? = some (.cells cs el (0, 0)) ∧ cs.size = cap * e.size ∧
        ∀ i (h : i < xs.length), RepV P e O F w (List.get xs ⟨i, h⟩) (fun j => cs[i * e.size + j]?)
def ArgOk (P : Program) (O : Nat → Prop) (F : Nat → Nat) (w : World) : (a : AS) → a.I → Value → Option (Nat × Nat) → Prop
  | .d v, x, u, q => q = none ∧ ∃ g, Whole v u g ∧ RepV P v O F w x g
  | .ref cs, x, u, q => q = none ∧ SrefAt P O F w (cs.cells x) u
  | .mv e, xs, u, q => BufVal P O F w e xs u q
def ArgsOk (P : Program) (O : Nat → Prop) (F : Nat → Nat) (w : World) : (as : List AS) → ASs.I as → List Value → List (Option (Nat × Nat)) → Prop
  | [], _, us, qs => us = [] ∧ qs = []
  | a :: as, z, us, qs => ∃ u us' q qs', us = u :: us' ∧ qs = q :: qs' ∧ ArgOk P O F w a z.1 u q ∧ ArgsOk P O F w as z.2 us' qs'
def ResOk (P : Program) (F : Nat → Nat) (w : World) : (r : RS) → r.I → Value → Option (Nat × Nat) → Prop
  | .d v, x, u, q => q = none ∧ ∃ g, Whole v u g ∧ RepV P v (fun _ => False) F w x g
  | .fresh e, xs, u, q => BufVal P (fun _ => False) F w e xs u q
def RessOk (P : Program) (F : Nat → Nat) (w : World) : (rs : List RS) → RSs.I rs → List Value → List (Option (Nat × Nat)) → Prop
  | [], _, us, qs => us = [] ∧ qs = []
  | [r], y, us, qs => ∃ u q, us = [u] ∧ qs = [q] ∧ ResOk P F w r y u q
  | r :: r' :: rs, y, us, qs => ∃ u us' q qs', us = u :: us' ∧ qs = q :: qs' ∧ ResOk P F w r y.1 u q ∧ RessOk P F w (r' :: rs) y.2 us' qs'
/-- The blocks. -/
def blk : List (Option (Nat × Nat)) → List Nat
  | [] => []
  | none :: l => blk l
  | some (b, _) :: l => b :: blk l

/-- A function keeps its contract. -/
def SoundCon (P : Program) (f : FuncId) (con : Con) : Prop :=
  Enters P f ∧ ∀ z y, con.f z = some y → ∀ (F : Nat → Nat) (w : World) (us : List Value) (qs : List (Option (Nat × Nat))),
    (∀ b, w.heap.size ≤ b → F b = 0) → (blk qs).Nodup → ArgsOk P (fun b => b < w.heap.size ∧ b ∉ blk qs) F w con.as z us qs →
      Calls P f us.toArray w fun e w' => ∃ vs F' ps, e = .returned (packV vs) ∧ Evo (blk qs) F F' w w' ∧ RessOk P F' w' con.rs y vs ps ∧
        (blk ps).Nodup ∧ ∀ b, b ∈ blk ps → w.heap.size ≤ b ∨ b ∈ blk qs
def SoundTab (P : Program) (C : Tab) : Prop := ∀ f con, C f = some con → SoundCon P f con

section view
variable (P : Program) (st : St) (O : Nat → Prop) (F : Nat → Nat) (w : World)
def VC0 : PC → Value → Prop
  | .d c, v => RepS P c.s O F w c.x v
  | .own tok, v => ∀ B, look st.b tok = some B → RepS P (.sl B.e) O F w B.xs v
  | _, _ => True
def VRow (r off : Nat) (v : Value) : Prop :=
  ∃ b, v = .pointer (some ⟨b, off, none⟩) ∧ ∀ cells, st.row r = some cells → O b ∧ ∃ cs el, w.heap[b]? = some (.cells cs el (0, 0)) ∧ All2 (VC0 P st O F w) cells cs.toList
def VCap : Cap → Value → Prop
  | .loc r, v => VRow P st O F w r 0 v
  | .sref cs, v => SrefAt P O F w cs v
def VC : PC → Value → Prop
  | .fn f caps, v => ∃ vs : Array Value, v = .func (.func f) #[] vs ∧ All2 (VCap P st O F w) caps vs.toList
  | p, v => VC0 P st O F w p v
def VP : PV → Value → Prop
  | .s (.loc r off), v => VRow P st O F w r off v
  | .s (.sref cs), v => SrefAt P O F w cs v
  | .s (.eptr _ _ _ cs), v => SrefAt P O F w cs v
  | .s p, v => VC P st O F w p v
  | .agg ps, v => ∃ cells : Array Value, v = .agg cells ∧ All2 (VC P st O F w) ps cells.toList
  | .tup _, _ => True
end view

section
variable {P : Program} {st : St} {O O' : Nat → Prop} {F F' : Nat → Nat} {w w' : World}

theorem VC0.mono (hO : ∀ b, O b → O' b) (hF : ∀ b, F b ≤ F' b) (hK : Keeps O F w w') (p : PC) (v : Value) (h : VC0 P st O F w p v) : VC0 P st O' F' w' p v := by
  cases p with
  | d c => exact RepS.mono hO hF hK _ _ _ h
  | own tok => exact fun B hB => RepS.mono hO hF hK _ _ _ (h B hB)
  | _ => trivial
theorem SrefAt.mono {cs : List DC} {v : Value} (hO : ∀ b, O b → O' b) (hF : ∀ b, F b ≤ F' b) (hK : Keeps O F w w') (h : SrefAt P O F w cs v) : SrefAt P O' F' w' cs v := by
  obtain ⟨b, off, hv, ho, hc⟩ := h
  refine ⟨b, off, hv, ho.imp (hO b) fun h => Nat.le_trans h (hF b), fun j c hj => ?_⟩
  obtain ⟨u, hu, hr⟩ := hc j c hj
  have hlt : j < cs.length := by
    rcases Nat.lt_or_ge j cs.length with h' | h'
    · exact h'
    · simp [List.getElem?_eq_none h'] at hj
  refine ⟨u, ?_, RepS.mono hO hF hK _ _ _ hr⟩
  rcases ho with ho | ho
  · exact (cell_of_heap (hK.old b ho)).trans hu
  · exact (hK.frz b _ (by omega)).trans hu
theorem VRow.mono (hO : ∀ b, O b → O' b) (hF : ∀ b, F b ≤ F' b) (hK : Keeps O F w w') {r off : Nat} {v : Value} (h : VRow P st O F w r off v) : VRow P st O' F' w' r off v := by
  obtain ⟨b, hv, hx⟩ := h
  refine ⟨b, hv, fun cells hc => ?_⟩
  obtain ⟨ho, cs, el, hh, ha⟩ := hx cells hc
  exact ⟨hO b ho, cs, el, (hK.old b ho).trans hh, All2.imp' (fun p u => VC0.mono hO hF hK p u) ha⟩
theorem VCap.mono (hO : ∀ b, O b → O' b) (hF : ∀ b, F b ≤ F' b) (hK : Keeps O F w w') (c : Cap) (v : Value) (h : VCap P st O F w c v) : VCap P st O' F' w' c v := by
  cases c with
  | loc r => exact VRow.mono hO hF hK h
  | sref cs => exact SrefAt.mono hO hF hK h

theorem ofPCs0_e (st : St) (s : Sc) (r : Scs) : ofPCs0 st (.cons s r) [] = none := by cases r <;> rfl
theorem ofPCs0_1 (st : St) (s : Sc) (c : PC) (l : List PC) : ofPCs0 st (.cons s .nil) (c :: l) = toSc0 st s c := rfl
theorem ofPCs0_2 (st : St) (s s' : Sc) (r : Scs) (c : PC) (l : List PC) : ofPCs0 st (.cons s (.cons s' r)) (c :: l) = match toSc0 st s c, ofPCs0 st (.cons s' r) l with
    | some a, some b => some (a, b)
    | _, _ => none := rfl
theorem ofPCs_e (C : Tab) (st : St) (s : Sc) (r : Scs) : ofPCs C st (.cons s r) [] = none := by cases r <;> rfl
theorem ofPCs_1 (C : Tab) (st : St) (s : Sc) (c : PC) (l : List PC) : ofPCs C st (.cons s .nil) (c :: l) = toSc C st s c := rfl
theorem ofPCs_2 (C : Tab) (st : St) (s s' : Sc) (r : Scs) (c : PC) (l : List PC) : ofPCs C st (.cons s (.cons s' r)) (c :: l) = match toSc C st s c, ofPCs C st (.cons s' r) l with
    | some a, some b => some (a, b)
    | _, _ => none := rfl
theorem ScsofDC_e (s : Sc) (r : Scs) : ScsofDC (.cons s r) [] = none := by cases r <;> rfl
theorem ScsofDC_1 (s : Sc) (c : DC) (l : List DC) : ScsofDC (.cons s .nil) (c :: l) = c.as s := rfl
theorem ScsofDC_2 (s s' : Sc) (r : Scs) (c : DC) (l : List DC) : ScsofDC (.cons s (.cons s' r)) (c :: l) = match c.as s, ScsofDC (.cons s' r) l with
    | some a, some b => some (a, b)
    | _, _ => none := rfl
theorem toSc0_ok {s : Sc} {p : PC} {x : s.I} {v : Value} (h : toSc0 st s p = some x) (hv : VC0 P st O F w p v) : RepS P s O F w x v := by
  unfold toSc0 at h
  split at h
  · have := DC.as_some h
    rename_i c; subst this; exact hv
  · split at h
    · rename_i tok B hB
      have := DC.as_some h
      have hv := hv B hB
      cases this; exact hv
    · simp at h
  · simp at h
theorem ofPCs0_ok : ∀ (t : Scs) {ps : List PC} {x : t.I} {us : List Value}, ofPCs0 st t ps = some x → All2 (VC0 P st O F w) ps us → RepCs P t O F w x (fun j => us[j]?)
  | .nil, _, _, _, _, _ => by simp only [RepCs]
  | .cons s .nil, [], _, _, h, _ => by rw [ofPCs0_e] at h; cases h
  | .cons s .nil, p :: ps, x, [], _, hv => hv.elim
  | .cons s .nil, p :: ps, x, u :: us, h, hv => by
    rw [ofPCs0_1] at h
    simp only [RepCs]
    exact ⟨u, by simp, toSc0_ok h hv.1⟩
  | .cons s (.cons s' r), [], _, _, h, _ => by rw [ofPCs0_e] at h; cases h
  | .cons s (.cons s' r), p :: ps, x, [], _, hv => hv.elim
  | .cons s (.cons s' r), p :: ps, x, u :: us, h, hv => by
    rw [ofPCs0_2] at h
    split at h
    · rename_i a b ha hb
      have h := Option.some.inj h; subst h
      simp only [RepCs]
      exact ⟨⟨u, by simp, toSc0_ok ha hv.1⟩, by simpa using ofPCs0_ok (.cons s' r) hb hv.2⟩
    · simp at h

theorem cells_length : ∀ (t : Scs) (x : t.I), (t.cells x).length = t.size
  | .nil, _ => rfl
  | .cons s .nil, x => rfl
  | .cons s (.cons s' r), x => by simp only [Scs.cells, List.length_cons, Scs.size]; rw [cells_length (.cons s' r) x.2]; rfl
theorem RepCs.cells : ∀ (t : Scs) {x : t.I} {g : Nat → Option Value}, RepCs P t O F w x g → ∀ j c, (t.cells x)[j]? = some c → ∃ u, g j = some u ∧ RepS P c.s O F w c.x u
  | .nil, x, g, _, j, c, hj => by simp [Scs.cells] at hj
  | .cons s .nil, x, g, h, j, c, hj => by
    simp only [RepCs] at h
    obtain ⟨u, hu, hr⟩ := h
    cases j with
    | zero => simp [Scs.cells] at hj; subst hj; exact ⟨u, hu, hr⟩
    | succ j => simp [Scs.cells] at hj
  | .cons s (.cons s' r), x, g, h, j, c, hj => by
    simp only [RepCs] at h
    obtain ⟨⟨u, hu, hr⟩, h2⟩ := h
    cases j with
    | zero => simp [Scs.cells] at hj; subst hj; exact ⟨u, hu, hr⟩
    | succ j => exact RepCs.cells (.cons s' r) h2 j c (by simpa [Scs.cells] using hj)
theorem RepCs.of_cells : ∀ (t : Scs) {x : t.I} {g : Nat → Option Value}, (∀ j c, (t.cells x)[j]? = some c → ∃ u, g j = some u ∧ RepS P c.s O F w c.x u) → RepCs P t O F w x g
  | .nil, x, g, _ => by simp only [RepCs]
  | .cons s .nil, x, g, h => by
    simp only [RepCs]; exact h 0 ⟨s, x⟩ (by simp [Scs.cells])
  | .cons s (.cons s' r), x, g, h => by
    simp only [RepCs]
    exact ⟨h 0 ⟨s, x.1⟩ (by simp [Scs.cells]), RepCs.of_cells (.cons s' r) fun j c hj => h (j + 1) c (by simpa [Scs.cells] using hj)⟩
theorem ScsofDC_some : ∀ (t : Scs) {l : List DC} {x : t.I}, ScsofDC t l = some x → ∃ r, l = t.cells x ++ r
  | .nil, l, x, _ => ⟨l, rfl⟩
  | .cons s .nil, [], x, h => by rw [ScsofDC_e] at h; cases h
  | .cons s .nil, c :: l, x, h => by
    rw [ScsofDC_1] at h
    exact ⟨l, by rw [DC.as_some h]; rfl⟩
  | .cons s (.cons s' r), [], x, h => by rw [ScsofDC_e] at h; cases h
  | .cons s (.cons s' r), c :: l, x, h => by
    rw [ScsofDC_2] at h
    split at h
    · rename_i a b ha hb
      have h := Option.some.inj h; subst h
      obtain ⟨r', hr⟩ := ScsofDC_some (.cons s' r) hb
      exact ⟨r', by rw [DC.as_some ha, hr]; rfl⟩
    · simp at h
theorem SrefAt.pre {cs r : List DC} {v : Value} (h : SrefAt P O F w (cs ++ r) v) : SrefAt P O F w cs v := by
  obtain ⟨b, off, hv, ho, hc⟩ := h
  refine ⟨b, off, hv, ho.imp id fun h => by simp at h; omega, fun j c hj => hc j c ?_⟩
  have hlt : j < cs.length := by
    rcases Nat.lt_or_ge j cs.length with h' | h'
    · exact h'
    · simp [List.getElem?_eq_none h'] at hj
  rw [List.getElem?_append_left hlt]; exact hj
theorem SrefAt.ofDC {cs : Scs} {l : List DC} {x : cs.I} {v : Value} (hx : ScsofDC cs l = some x) (h : SrefAt P O F w l v) : SrefAt P O F w (cs.cells x) v := by
  obtain ⟨r, rfl⟩ := ScsofDC_some cs hx
  exact h.pre
theorem VRow.sref {r off : Nat} {v : Value} {cs : Scs} {cells : List PC} {x : cs.I} (h : VRow P st O F w r off v) (hr : st.row r = some cells) (hx : ofPCs0 st cs (cells.drop off) = some x) :
    SrefAt P O F w (cs.cells x) v := by
  obtain ⟨b, hv, hb⟩ := h
  obtain ⟨ho, cells', el, hh, ha⟩ := hb cells hr
  refine ⟨b, off, hv, .inl ho, fun j c hj => ?_⟩
  have hc := ofPCs0_ok cs hx (All2.drop off ha)
  obtain ⟨u, hu, hs⟩ := RepCs.cells cs hc j c hj
  refine ⟨u, ?_, hs⟩
  simp only [World.cell?, hh]
  simpa using hu
theorem decArg0_ok {a : AS} {p : PV} {x : a.I} {v : Value} (h : decArg0 st a p = some x) (hv : VP P st O F w p v) : ArgOk P O F w a x v none := by
  cases a with
  | d t =>
    cases t with
    | sc s =>
      cases p with
      | s p =>
        have h : toSc0 st s p = some x := h
        refine ⟨rfl, _, rfl, ?_⟩
        simp only [RepV]
        refine ⟨v, rfl, toSc0_ok h ?_⟩
        cases p with
        | loc r off => cases h
        | sref cs => cases h
        | eptr a b c d => cases h
        | fn f caps => cases h
        | _ => exact hv
      | agg ps => cases h
      | tup vs => cases h
    | ag cs =>
      cases p with
      | s p => cases h
      | tup vs => cases h
      | agg ps =>
        have h : cond (Nat.beq ps.length cs.size) (ofPCs0 st cs ps) none = some x := h
        obtain ⟨cells, rfl, ha⟩ := hv
        cases hl : Nat.beq ps.length cs.size with
        | false => rw [hl] at h; cases h
        | true =>
          rw [hl] at h
          have h : ofPCs0 st cs ps = some x := h
          refine ⟨rfl, _, ⟨cells, rfl, ?_, rfl⟩, ?_⟩
          · have := All2.length ha
            simp at this; rw [← this]; exact Nat.eq_of_beq_eq_true hl
          · simp only [RepV]
            have : All2 (VC0 P st O F w) ps cells.toList := by
              refine ha.imp_mem fun p u _ hx => ?_
              cases p with
              | fn f caps => trivial
              | _ => exact hx
            simpa using ofPCs0_ok cs h this
  | mv e => cases p <;> cases h
  | ref cs =>
    cases p with
    | agg ps => cases h
    | tup vs => cases h
    | s p =>
      cases p with
      | sref l => exact ⟨rfl, SrefAt.ofDC (show ScsofDC cs l = some x from h) hv⟩
      | eptr a b c l => exact ⟨rfl, SrefAt.ofDC (show ScsofDC cs l = some x from h) hv⟩
      | loc r off =>
        have h : (match st.row r with
          | some cells => ofPCs0 st cs (cells.drop off)
          | none => none) = some x := h
        split at h
        · rename_i cells hr
          exact ⟨rfl, VRow.sref hv hr h⟩
        · cases h
      | _ => cases h
theorem decArgs0_ok : ∀ (as : List AS) {ps : List PV} {z : ASs.I as} {us : List Value}, decArgs0 st as ps = some z → All2 (VP P st O F w) ps us → ArgsOk P O F w as z us (us.map fun _ => none)
  | [], [], _, [], _, _ => ⟨rfl, rfl⟩
  | [], [], _, _ :: _, _, h => h.elim
  | [], _ :: _, _, _, h, _ => by simp [decArgs0] at h
  | _ :: _, [], _, _, h, _ => by simp [decArgs0] at h
  | a :: as, p :: ps, z, [], _, h => h.elim
  | a :: as, p :: ps, z, u :: us, h, hv => by
    simp only [decArgs0] at h
    split at h
    · rename_i x y hx hy
      have h := Option.some.inj h; subst h
      exact ⟨u, us, none, _, rfl, rfl, decArg0_ok hx hv.1, decArgs0_ok as hy hv.2⟩
    · simp at h
theorem blk_none {α : Type} : ∀ (us : List α), blk (us.map fun _ => none) = []
  | [] => rfl
  | _ :: us => blk_none us

theorem Whole.enc {v : VT} {x : v.I} {u : Value} {g : Nat → Option Value} (h : Whole v u g) (hr : RepV P v O F w x g) : VP P st O F w (encVT v x) u := by
  cases v with
  | sc s =>
    simp only [Whole] at h
    subst h
    simp only [RepV] at hr
    obtain ⟨u', hu, hs⟩ := hr
    cases hu
    exact hs
  | ag cs =>
    obtain ⟨cells, rfl, hsz, rfl⟩ := h
    simp only [RepV] at hr
    refine ⟨cells, rfl, ?_⟩
    have hl := cells_length cs x
    refine All2.of_get (by simp [hl, hsz]) fun j p u hj hu => ?_
    simp only [List.getElem?_map, Option.map_eq_some_iff] at hj
    obtain ⟨c, hc, rfl⟩ := hj
    obtain ⟨u', hu', hs⟩ := RepCs.cells cs hr j c hc
    have : u' = u := by
      simp at hu hu'
      rw [hu] at hu'; simpa using hu'.symm
    subst this
    exact hs
theorem encVTs_ok : ∀ (vs : VTs) {x : vs.I} {us : List Value}, RepWs P vs O F w x us → All2 (VP P st O F w) (encVTs vs x) us
  | .nil, x, us, h => by simp only [RepWs] at h; subst h; trivial
  | .cons v .nil, x, us, h => by
    simp only [RepWs] at h
    obtain ⟨u, g, rfl, hw, hr⟩ := h
    exact ⟨Whole.enc hw hr, trivial⟩
  | .cons v (.cons v' r), x, us, h => by
    simp only [RepWs] at h
    obtain ⟨u, us', g, rfl, hw, hr, h2⟩ := h
    exact ⟨Whole.enc hw hr, encVTs_ok (.cons v' r) h2⟩

/-- A row's cells. -/
def rowLen (w : World) (b : Nat) : Nat := match w.heap[b]? with
  | some (.cells cs _ _) => cs.size
  | _ => 0
/-- All of some blocks is frozen. -/
def bump (F : Nat → Nat) (w : World) (bs : List Nat) : Nat → Nat := fun b => if b ∈ bs then max (F b) (rowLen w b) else F b
theorem bump_ge (F : Nat → Nat) (w : World) (bs : List Nat) (b : Nat) : F b ≤ bump F w bs b := by
  unfold bump; split
  · exact Nat.le_max_left _ _
  · exact Nat.le_refl _
theorem ResOk.toVT {r : RS} {x : r.I} {u : Value} {q : Option (Nat × Nat)} {v : VT} {y : v.I} {bs : List Nat} (h : ResOk P F w r x u q) (hy : r.toVT x v = some y) (hb : ∀ b cap, q = some (b, cap) → b ∈ bs) :
    ∃ g, Whole v u g ∧ RepV P v (fun _ => False) (bump F w bs) w y g := by
  cases r with
  | d v' =>
    obtain ⟨_, g, hw, hr⟩ := h
    simp only [RS.toVT] at hy
    split at hy
    · rename_i e _
      subst e; have hy := Option.some.inj hy; subst hy
      exact ⟨g, hw, RepV.mono (fun _ h => h) (bump_ge F w bs) (Keeps.refl _ _ _) _ _ _ _ (fun _ _ => rfl) hr⟩
    · simp at hy
  | fresh e =>
    simp only [RS.toVT] at hy
    split at hy
    · rename_i e' _
      subst e'; have hy := Option.some.inj hy; subst hy
      refine ⟨fun _ => some u, rfl, ?_⟩
      simp only [RepV]
      refine ⟨u, rfl, ?_⟩
      simp only [RepS]
      simp only [ResOk] at h
      cases q with
      | none => obtain ⟨h0, a, hu⟩ := h; exact ⟨a, 0, by rw [hu]; simp [h0], Nat.le_of_eq h0, .inl h0⟩
      | some q =>
        obtain ⟨b, cap⟩ := q
        obtain ⟨hu, hF, hle, cs, el, hh, hs, hel⟩ := h
        refine ⟨_, cap, hu, hle, .inr ⟨b, 0, rfl, ?_, fun i hi => ?_⟩⟩
        · have h1 : rowLen w b = cs.size := by simp [rowLen, hh]
          have h2 : List.length (α := e.I) x * e.size ≤ cap * e.size := Nat.mul_le_mul_right _ hle
          unfold bump; rw [if_pos (hb b cap rfl), h1, hs]; simp; exact Nat.le_trans h2 (Nat.le_max_right _ _)
        · refine RepV.mono (fun _ h => h) (bump_ge F w bs) (Keeps.refl _ _ _) e _ _ _ (fun j hj => ?_) (hel i hi)
          simp [World.cell?, hh]
    · simp at hy
theorem toVTs_2 (r r' : RS) (rs : List RS) (x : RSs.I (r :: r' :: rs)) (v v' : VT) (vs : VTs) : RSs.toVTs (r :: r' :: rs) x (.cons v (.cons v' vs)) = match r.toVT x.1 v, RSs.toVTs (r' :: rs) x.2 (.cons v' vs) with
    | some a, some b => some (a, b)
    | _, _ => none := rfl
theorem RessOk.toVTs {bs : List Nat} : ∀ (rs : List RS) {x : RSs.I rs} {us : List Value} {qs : List (Option (Nat × Nat))} (vs : VTs) {y : vs.I}, RessOk P F w rs x us qs → RSs.toVTs rs x vs = some y → (∀ b, b ∈ blk qs → b ∈ bs) →
    RepWs P vs (fun _ => False) (bump F w bs) w y us
  | [], x, us, qs, .nil, y, h, hy, hb => by simp only [RepWs]; exact h.1
  | [], x, us, qs, .cons _ _, y, h, hy, hb => by cases hy
  | [r], x, us, qs, .nil, y, h, hy, hb => by cases hy
  | [r], x, us, qs, .cons v .nil, y, h, hy, hb => by
    obtain ⟨u, q, rfl, rfl, h⟩ := h
    obtain ⟨g, h1, h2⟩ := ResOk.toVT h hy (fun b cap e => hb b (by subst e; simp [blk]))
    simp only [RepWs]; exact ⟨u, g, rfl, h1, h2⟩
  | [r], x, us, qs, .cons v (.cons _ _), y, h, hy, hb => by cases hy
  | r :: r' :: rs, x, us, qs, .nil, y, h, hy, hb => by cases hy
  | r :: r' :: rs, x, us, qs, .cons v .nil, y, h, hy, hb => by cases hy
  | r :: r' :: rs, x, us, qs, .cons v (.cons v' vs), y, h, hy, hb => by
    obtain ⟨u, us', q, qs', rfl, rfl, h, h'⟩ := h
    rw [toVTs_2] at hy
    split at hy
    · rename_i a b ha hb'
      have hy := Option.some.inj hy; subst hy
      obtain ⟨g, h1, h2⟩ := ResOk.toVT h ha (fun b cap e => hb b (by subst e; simp [blk]))
      simp only [RepWs]
      refine ⟨u, us', g, rfl, h1, h2, RessOk.toVTs (r' :: rs) (.cons v' vs) h' hb' fun b hbb => hb b ?_⟩
      cases q with
      | none => exact hbb
      | some q => simp [blk, hbb]
    · simp at hy

theorem blk_lt {rs : List RS} : ∀ {x : RSs.I rs} {us : List Value} {qs : List (Option (Nat × Nat))}, RessOk P F w rs x us qs → ∀ b, b ∈ blk qs → b < w.heap.size := by
  have one : ∀ {r : RS} {x : r.I} {u q} (_ : ResOk P F w r x u q) b, b ∈ blk [q] → b < w.heap.size := by
    intro r x u q h b hb
    cases q with
    | none => simp [blk] at hb
    | some q =>
      obtain ⟨b', cap⟩ := q
      simp [blk] at hb; subst hb
      cases r with
      | d v => obtain ⟨h, _⟩ := h; simp at h
      | fresh e => obtain ⟨_, _, _, cs, el, hh, _⟩ := h; exact lt_of_heap hh
  induction rs with
  | nil => intro x us qs h b hb; obtain ⟨_, rfl⟩ := h; simp [blk] at hb
  | cons r rs ih =>
    cases rs with
    | nil => intro x us qs h b hb; obtain ⟨u, q, rfl, rfl, h⟩ := h; exact one h b hb
    | cons r' rs =>
      intro x us qs h b hb
      obtain ⟨u, us', q, qs', rfl, rfl, h, h'⟩ := h
      cases q with
      | none => exact ih h' b hb
      | some q =>
        simp [blk] at hb
        rcases hb with hb | hb
        · exact one h b (by simp [blk, hb])
        · exact ih h' b hb

/-- A function's literal is the function that it stands for. -/
theorem cloFn_ok {C : Tab} (hC : SoundTab P C) {f : FuncId} {caps : List Cap} {vs : Array Value} (a r : VTs) (hO : ∀ b, O b → b < w.heap.size)
    (h : All2 (VCap P st O F w) caps vs.toList) : RepS P (.fn a r) O F w (cloFn C st f caps a r) (.func (.func f) #[] vs) := by
  simp only [RepS]
  refine ⟨f, vs, rfl, fun F' w' hK hF hn x y hy args ha => ?_⟩
  unfold cloFn at hy
  split at hy
  · simp at hy
  · rename_i con hcon
    split at hy
    · simp at hy
    · rename_i z hz
      obtain ⟨y0, hy0, hy1⟩ := Option.bind_eq_some_iff.1 hy
      obtain ⟨hent, hs⟩ := hC f con hcon
      refine ⟨hent, ?_⟩
      have hv : All2 (VP P st (fun b => b < w'.heap.size) F' w') (encVTs a x ++ caps.map capPV) (args ++ vs.toList) := by
        refine All2.append (encVTs_ok a ha) (All2.imp capPV (R := VCap P st O F w) (fun c u hu => ?_) h)
        have := VCap.mono (fun b hb => Nat.lt_of_lt_of_le (hO b hb) hK.size) hF hK c u hu
        cases c with
        | loc r => exact this
        | sref cs => exact this
      have hargs := decArgs0_ok con.as hz hv
      have := hs z y0 hy0 F' w' (args ++ vs.toList) ((args ++ vs.toList).map fun _ => none) hn (by rw [blk_none]; exact List.nodup_nil) (by
        have e : (fun b => b < w'.heap.size ∧ b ∉ blk ((args ++ vs.toList).map fun _ => none)) = fun b => b < w'.heap.size := by funext b; rw [blk_none]; simp
        rw [e]; exact hargs)
      rw [blk_none] at this
      have harr : (args ++ vs.toList).toArray = args.toArray ++ vs := by simp
      rw [harr] at this
      refine Calls.mono this fun e w'' hx => ?_
      obtain ⟨us, F2, ps, he, hev, hres, _, hbl⟩ := hx
      refine ⟨us, bump F2 w'' (blk ps), he, ?_, RessOk.toVTs con.rs r hres hy1 fun b hb => hb⟩
      refine ⟨hev.os, hev.tape, hev.drawn, hev.output, hev.size, hev.block, fun b hb hm => ?_, fun b => Nat.le_trans (hev.fge b) (bump_ge _ _ _ _), fun b hb => ?_⟩
      · unfold bump
        rw [if_neg fun hmem => by have := hbl b hmem; simp at this; omega]
        exact hev.fold b hb hm
      · unfold bump
        rw [if_neg fun hmem => by have := blk_lt hres b hmem; omega]
        exact hev.fnew b hb

theorem toSc_ok {C : Tab} (hC : SoundTab P C) (hO : ∀ b, O b → b < w.heap.size) {s : Sc} {p : PC} {x : s.I} {v : Value} (h : toSc C st s p = some x) (hv : VC P st O F w p v) : RepS P s O F w x v := by
  unfold toSc at h
  split at h
  · have h := Option.some.inj h; subst h
    obtain ⟨vs, rfl, ha⟩ := hv
    exact cloFn_ok hC _ _ hO ha
  · refine toSc0_ok h ?_
    cases p with
    | fn f caps => trivial
    | _ => exact hv
theorem ofPCs_ok {C : Tab} (hC : SoundTab P C) (hO : ∀ b, O b → b < w.heap.size) : ∀ (t : Scs) {ps : List PC} {x : t.I} {us : List Value}, ofPCs C st t ps = some x → All2 (VC P st O F w) ps us → RepCs P t O F w x (fun j => us[j]?)
  | .nil, _, _, _, _, _ => by simp only [RepCs]
  | .cons s .nil, [], _, _, h, _ => by rw [ofPCs_e] at h; cases h
  | .cons s .nil, p :: ps, x, [], _, hv => hv.elim
  | .cons s .nil, p :: ps, x, u :: us, h, hv => by
    rw [ofPCs_1] at h
    simp only [RepCs]
    exact ⟨u, by simp, toSc_ok hC hO h hv.1⟩
  | .cons s (.cons s' r), [], _, _, h, _ => by rw [ofPCs_e] at h; cases h
  | .cons s (.cons s' r), p :: ps, x, [], _, hv => hv.elim
  | .cons s (.cons s' r), p :: ps, x, u :: us, h, hv => by
    rw [ofPCs_2] at h
    split at h
    · rename_i a b ha hb
      have h := Option.some.inj h; subst h
      simp only [RepCs]
      exact ⟨⟨u, by simp, toSc_ok hC hO ha hv.1⟩, by simpa using ofPCs_ok hC hO (.cons s' r) hb hv.2⟩
    · simp at h
theorem toVT_ok {C : Tab} (hC : SoundTab P C) (hO : ∀ b, O b → b < w.heap.size) {t : VT} {p : PV} {x : t.I} {u : Value} (h : toVT C st t p = some x) (hv : VP P st O F w p u) : ∃ g, Whole t u g ∧ RepV P t O F w x g := by
  cases t with
  | sc s =>
    cases p with
    | s p =>
      have h : toSc C st s p = some x := h
      refine ⟨_, rfl, ?_⟩
      simp only [RepV]
      refine ⟨u, rfl, toSc_ok hC hO h ?_⟩
      cases p with
      | loc r off => cases s <;> cases h
      | sref cs => cases s <;> cases h
      | eptr a b c d => cases s <;> cases h
      | _ => exact hv
    | agg ps => cases h
    | tup vs => cases h
  | ag cs =>
    cases p with
    | s p => cases h
    | tup vs => cases h
    | agg ps =>
      have h : cond (Nat.beq ps.length cs.size) (ofPCs C st cs ps) none = some x := h
      obtain ⟨cells, rfl, ha⟩ := hv
      cases hl : Nat.beq ps.length cs.size with
      | false => rw [hl] at h; cases h
      | true =>
        rw [hl] at h
        have h : ofPCs C st cs ps = some x := h
        refine ⟨_, ⟨cells, rfl, ?_, rfl⟩, ?_⟩
        · have := All2.length ha
          simp at this; rw [← this]; exact Nat.eq_of_beq_eq_true hl
        · simp only [RepV]
          simpa using ofPCs_ok hC hO cs h ha
theorem toVTs_cc (C : Tab) (st : St) (v v' : VT) (r : VTs) (p : PV) (ps : List PV) : toVTs C st (.cons v (.cons v' r)) (p :: ps) = match toVT C st v p, toVTs C st (.cons v' r) ps with
    | some a, some b => some (a, b)
    | _, _ => none := rfl
theorem toVTs_ok {C : Tab} (hC : SoundTab P C) (hO : ∀ b, O b → b < w.heap.size) : ∀ (vs : VTs) {ps : List PV} {x : vs.I} {us : List Value}, toVTs C st vs ps = some x → All2 (VP P st O F w) ps us → RepWs P vs O F w x us
  | .nil, [], _, [], _, _ => by simp only [RepWs]
  | .nil, [], _, _ :: _, _, h => h.elim
  | .nil, _ :: _, _, _, h, _ => by cases h
  | .cons v .nil, [], _, _, h, _ => by cases h
  | .cons v .nil, [p], x, [], _, hv => hv.elim
  | .cons v .nil, [p], x, [u], h, hv => by
    obtain ⟨g, h1, h2⟩ := toVT_ok hC hO (show toVT C st v p = some x from h) hv.1
    simp only [RepWs]; exact ⟨u, g, rfl, h1, h2⟩
  | .cons v .nil, [p], x, _ :: _ :: _, _, hv => hv.2.elim
  | .cons v .nil, _ :: _ :: _, x, _, h, _ => by cases h
  | .cons v (.cons v' r), [], _, _, h, _ => by cases h
  | .cons v (.cons v' r), p :: ps, x, [], _, hv => hv.elim
  | .cons v (.cons v' r), p :: ps, x, u :: us, h, hv => by
    rw [toVTs_cc] at h
    split at h
    · rename_i a b ha hb
      have h := Option.some.inj h; subst h
      obtain ⟨g, h1, h2⟩ := toVT_ok hC hO ha hv.1
      simp only [RepWs]
      exact ⟨u, us, g, rfl, h1, h2, toVTs_ok hC hO (.cons v' r) hb hv.2⟩
    · simp at h
end
end Go.PgAM

/-
  A call by contract, from the machine's state and back to it.
-/
namespace Go.PgAM
open Go Go.RowKit
set_option linter.unusedVariables false
variable {P : Program} {Z : At0} {X X' : Cx} {st st' : St} {a : Act} {w w' : World}

section view
variable {O' : Nat → Prop} {F1 : Nat → Nat} {ts : List Nat}
/-- What is handed on of a state: the tokens that are shown, wholly frozen. -/
structure Shown (X : Cx) (st : St) (O' : Nat → Prop) (F1 : Nat → Nat) (ts : List Nat) : Prop where
  O : ∀ b, X.O b → O' b
  F : ∀ b, X.F b ≤ F1 b
  rows : ∀ r cells, st.row r = some cells → O' (X.ρ r)
  cov : ∀ t, t ∈ ts → ∀ B b cap, look st.b t = some B → X.β t = some (b, cap) → B.xs.length * B.e.size ≤ F1 b
theorem Rel.vc0 (h : Rel P Z X st a w) (s : Shown X st O' F1 ts) {p : PC} {v : Value} (hv : RelC P X st.b w p v) (ht : ∀ t, p = .own t → t ∈ ts) : VC0 P st O' F1 w p v := by
  cases p with
  | d c => exact RepS.mono s.O s.F (Keeps.refl _ _ _) _ _ _ hv
  | own tok =>
    intro B hB
    obtain ⟨B', hB', hs⟩ := hv
    have e : B' = B := Option.some.inj (hB'.symm.trans hB)
    subst e
    exact RepS.mono s.O (fun _ => Nat.le_refl _) (Keeps.refl _ _ _) _ _ _ (h.snap s.F hB hs fun b cap hb => s.cov tok (ht tok rfl) B' b cap hB hb)
  | _ => trivial
def ownToks (cells : List PC) : List Nat := cells.flatMap fun | .own t => [t] | _ => []
theorem mem_ownToks {cells : List PC} {t : Nat} (h : PC.own t ∈ cells) : t ∈ ownToks cells := by
  unfold ownToks
  rw [List.mem_flatMap]
  exact ⟨_, h, by simp⟩
theorem Rel.vrow (h : Rel P Z X st a w) (s : Shown X st O' F1 ts) {r off : Nat} {v : Value} (hv : v = .pointer (some ⟨X.ρ r, off, none⟩)) (ht : ∀ t, t ∈ ownToks ((st.row r).getD []) → t ∈ ts) : VRow P st O' F1 w r off v := by
  refine ⟨_, hv, fun cells hr => ?_⟩
  obtain ⟨_, _, cs, el, hh, ha⟩ := h.r r cells hr
  refine ⟨s.rows r cells hr, cs, el, hh, ha.imp_mem fun p u hp hx => h.vc0 s hx.1 fun t e => ht t ?_⟩
  rw [hr]; subst e; exact mem_ownToks hp
theorem Rel.vcap (h : Rel P Z X st a w) (s : Shown X st O' F1 ts) {c : Cap} {v : Value} (hv : RelCap P X w c v) (ht : ∀ r, c = .loc r → ∀ t, t ∈ ownToks ((st.row r).getD []) → t ∈ ts) : VCap P st O' F1 w c v := by
  cases c with
  | loc r => exact h.vrow s hv (ht r rfl)
  | sref cs => exact SrefAt.mono s.O s.F (Keeps.refl _ _ _) hv
theorem Rel.vc (h : Rel P Z X st a w) (s : Shown X st O' F1 ts) {p : PC} {v : Value} (hv : RelC P X st.b w p v) (ht : ∀ t, t ∈ p.toks st → t ∈ ts) : VC P st O' F1 w p v := by
  cases p with
  | fn f caps =>
    obtain ⟨vs, hv, ha⟩ := hv
    refine ⟨vs, hv, ha.imp_mem fun c u hc hx => h.vcap s hx fun r e t htr => ht t ?_⟩
    subst e
    simp only [PC.toks, List.mem_flatMap]
    exact ⟨_, hc, htr⟩
  | own tok => exact h.vc0 s hv fun t e => by cases e; exact ht tok (by simp [PC.toks])
  | d c => exact h.vc0 s hv fun t e => by cases e
  | _ => trivial
theorem Rel.vp (h : Rel P Z X st a w) (s : Shown X st O' F1 ts) {pv : PV} {v : Value} (hv : RelP P X st.b w pv v) (ht : ∀ t, t ∈ pv.toks st → t ∈ ts)
    (hp : ∀ t, t ∈ pv.ptrs → ∀ B b cap, look st.b t = some B → X.β t = some (b, cap) → O' b) : VP P st O' F1 w pv v := by
  cases pv with
  | tup vs => trivial
  | agg ps =>
    obtain ⟨cells, rfl, ha⟩ := hv
    refine ⟨cells, rfl, ha.imp_mem fun p u hm hx => h.vc s hx.1 fun t htp => ht t ?_⟩
    simp only [PV.toks, List.mem_flatMap]
    exact ⟨p, hm, htp⟩
  | s p =>
    cases p with
    | loc r off => exact h.vrow s hv fun t htr => ht t htr
    | sref cs => exact SrefAt.mono s.O s.F (Keeps.refl _ _ _) hv
    | eptr tok i off cs =>
      obtain ⟨B, b, cap, hB, hb, _, _, _, hv, hc⟩ := hv
      refine ⟨b, _, hv, .inl (hp tok (by simp [PV.ptrs]) B b cap hB hb), fun j c hj => ?_⟩
      obtain ⟨u, hu, hs⟩ := hc j c hj
      exact ⟨u, hu, RepS.mono s.O s.F (Keeps.refl _ _ _) _ _ _ hs⟩
    | fn f caps => exact h.vc (p := .fn f caps) s hv ht
    | own tok => exact h.vc (p := .own tok) s hv ht
    | d c => exact h.vc (p := .d c) s hv ht
    | opre _ _ => trivial
    | osuf _ _ => trivial
    | undef => trivial
    | dead => trivial
end view

def mvQs (β : Nat → Option (Nat × Nat)) : List AS → List PV → List (Option (Nat × Nat))
  | a :: as, v :: vs => (mvTok a v).bind β :: mvQs β as vs
  | _, _ => []
theorem mem_blk : ∀ {qs : List (Option (Nat × Nat))} {b : Nat}, b ∈ blk qs ↔ ∃ cap, some (b, cap) ∈ qs
  | [], b => by simp [blk]
  | none :: l, b => by simp only [blk]; rw [mem_blk (qs := l)]; simp
  | some (b', c) :: l, b => by
    simp only [blk, List.mem_cons]; rw [mem_blk (qs := l)]
    constructor
    · rintro (rfl | ⟨cap, h⟩)
      · exact ⟨c, .inl rfl⟩
      · exact ⟨cap, .inr h⟩
    · rintro ⟨cap, h | h⟩
      · cases h; exact .inl rfl
      · exact .inr ⟨cap, h⟩
theorem mvQs_mem {β : Nat → Option (Nat × Nat)} {q : Nat × Nat} : ∀ {as : List AS} {vs : List PV}, some q ∈ mvQs β as vs → ∃ tok, tok ∈ mvToks as vs ∧ β tok = some q
  | [], [], h => by simp [mvQs] at h
  | [], _ :: _, h => by simp [mvQs] at h
  | _ :: _, [], h => by simp [mvQs] at h
  | a :: as, v :: vs, h => by
    simp only [mvQs, List.mem_cons] at h
    simp only [mvToks, List.mem_append]
    rcases h with h | h
    · cases e : mvTok a v with
      | none => simp [e] at h
      | some t => simp [e] at h; exact ⟨t, .inl (by simp), h.symm⟩
    · obtain ⟨tok, h1, h2⟩ := mvQs_mem h
      exact ⟨tok, .inr h1, h2⟩
theorem mvTok_some {a : AS} {v : PV} {t : Nat} (h : mvTok a v = some t) : ∃ e, a = .mv e ∧ v = .s (.own t) := by
  unfold mvTok at h
  split at h
  · cases h; exact ⟨_, rfl, rfl⟩
  · cases h
theorem decArg_own {C : Tab} {e : VT} {t : Nat} {x : List e.I} (h : decArg C st (.mv e) (.s (.own t)) = some x) : look st.b t = some ⟨true, e, x⟩ := by
  have hx : (match look st.b t with
    | some ⟨true, e', xs⟩ => castL e' e xs
    | _ => none) = some x := h
  split at hx
  · rename_i e' xs hB
    obtain ⟨p, hp⟩ := castL_some hx
    subst p; rw [hB]; simp at hp; rw [hp]
  · cases hx
theorem decArgs_cons {C : Tab} {a : AS} {as : List AS} {v : PV} {vs : List PV} {z : ASs.I (a :: as)} (h : decArgs C st (a :: as) (v :: vs) = some z) : decArg C st a v = some z.1 ∧ decArgs C st as vs = some z.2 := by
  simp only [decArgs] at h
  split at h
  · rename_i x y hx hy
    have h := Option.some.inj h
    subst h; exact ⟨hx, hy⟩
  · cases h
/-- All tokens that are given away are there, wholly one's own. -/
theorem decArgs_mv {C : Tab} : ∀ {as : List AS} {vs : List PV} {z : ASs.I as}, decArgs C st as vs = some z → ∀ t, t ∈ mvToks as vs → ∃ B, look st.b t = some B ∧ B.x = true
  | [], [], _, _, t, ht => by simp [mvToks] at ht
  | [], _ :: _, _, _, t, ht => by simp [mvToks] at ht
  | _ :: _, [], _, _, t, ht => by simp [mvToks] at ht
  | a :: as, v :: vs, z, h, t, ht => by
    obtain ⟨h1, h2⟩ := decArgs_cons h
    simp only [mvToks, List.mem_append] at ht
    rcases ht with ht | ht
    · simp at ht
      obtain ⟨e, rfl, rfl⟩ := mvTok_some ht
      exact ⟨_, decArg_own h1, rfl⟩
    · exact decArgs_mv h2 t ht
theorem decArg_ok {C : Tab} (hC : SoundTab P C) {O : Nat → Prop} {F : Nat → Nat} (hO : ∀ b, O b → b < w.heap.size) {c : AS} {p : PV} {x : c.I} {v : Value}
    (h : decArg C st c p = some x) (hm : mvTok c p = none) (hv : VP P st O F w p v) : ArgOk P O F w c x v none := by
  cases c with
  | d t =>
    obtain ⟨g, h1, h2⟩ := toVT_ok hC hO (show toVT C st t p = some x from h) hv
    exact ⟨rfl, g, h1, h2⟩
  | mv e =>
    cases p with
    | s p => cases p with
      | own t => cases hm
      | _ => cases h
    | _ => cases h
  | ref cs =>
    cases p with
    | agg ps => cases h
    | tup vs => cases h
    | s p =>
      cases p with
      | sref l => exact ⟨rfl, SrefAt.ofDC (show ScsofDC cs l = some x from h) hv⟩
      | eptr a b c l => exact ⟨rfl, SrefAt.ofDC (show ScsofDC cs l = some x from h) hv⟩
      | loc r off =>
        have h : (match st.row r with
          | some cells => ofPCs0 st cs (cells.drop off)
          | none => none) = some x := h
        split at h
        · rename_i cells hr
          exact ⟨rfl, VRow.sref hv hr h⟩
        · cases h
      | _ => cases h
theorem decArgs_ok {C : Tab} (hC : SoundTab P C) {O : Nat → Prop} {F : Nat → Nat} (hO : ∀ b, O b → b < w.heap.size) (β : Nat → Option (Nat × Nat)) :
    ∀ {as : List AS} {vs : List PV} {us : List Value} {z : ASs.I as}, decArgs C st as vs = some z →
      (∀ t, t ∈ mvToks as vs → ∀ B v, look st.b t = some B → SlAt β t B.xs.length v → BufVal P O F w B.e B.xs v (β t)) →
      (∀ t, t ∈ keptToks st as vs → t ∈ keptToks st as vs) →
      All2 (RelP P X st.b w) vs us → (∀ pv u, pv ∈ vs → RelP P X st.b w pv u → (∀ t, t ∈ pv.toks st → t ∈ keptToks st as vs) → VP P st O F w pv u) → X.β = β → ArgsOk P O F w as z us (mvQs β as vs)
  | [], [], [], z, h, _, _, _, _, _ => ⟨rfl, rfl⟩
  | [], [], _ :: _, z, h, _, _, hr, _, _ => hr.elim
  | [], _ :: _, _, z, h, _, _, _, _, _ => by cases h
  | _ :: _, [], _, z, h, _, _, _, _, _ => by cases h
  | c :: as, p :: vs, [], z, h, _, _, hr, _, _ => hr.elim
  | c :: as, p :: vs, u :: us, z, h, hm, _, hr, hk, hβ => by
    obtain ⟨h1, h2⟩ := decArgs_cons h
    refine ⟨u, us, _, _, rfl, rfl, ?_, decArgs_ok hC hO β h2 (fun t ht => hm t (by simp [mvToks, ht])) (fun _ h => h) hr.2 (fun pv u hp hx ht => hk pv u (by simp [hp]) hx fun t htt => by simp [keptToks, ht t htt]) hβ⟩
    cases e : mvTok c p with
    | none =>
      exact decArg_ok hC hO h1 e (hk p u (by simp) hr.1 fun t ht => by simp [keptToks, e, ht])
    | some t =>
      obtain ⟨e', rfl, rfl⟩ := mvTok_some e
      obtain ⟨B, hB, hs⟩ := hr.1
      have hB' := decArg_own h1
      rw [hB'] at hB; cases hB
      rw [hβ] at hs
      exact hm t (by simp [mvToks, e]) _ u hB' hs
end Go.PgAM

/-
  Behind a call: what was given away is gone, memory has grown, results lie in their slots.
-/
namespace Go.PgAM
open Go Go.RowKit
set_option linter.unusedVariables false
variable {P : Program} {Z : At0} {X X' : Cx} {st st' : St} {a : Act} {w w' : World}

theorem look_dropTok (tok : Nat) : ∀ (l : List (Nat × Buf)) (t : Nat), look (dropTok tok l) t = if t = tok then none else look l t
  | [], t => by simp [dropTok, look]
  | (m, B) :: l, t => by
    simp only [dropTok]
    by_cases e : m = tok
    · subst e
      simp only [Nat.beq_refl, cond_true, look_cons]
      rw [look_dropTok m l t]
      by_cases e2 : t = m
      · simp [e2]
      · have e3 : ¬ m = t := fun x => e2 x.symm
        simp only [if_neg e2, if_neg e3]
    · have : Nat.beq m tok = false := by rw [Bool.eq_false_iff]; exact fun h' => e (Nat.eq_of_beq_eq_true h')
      simp only [this, cond_false, look_cons]
      rw [look_dropTok tok l t]
      by_cases e2 : m = t
      · subst e2; simp [e]
      · simp [e2]
theorem Rel.give (h : Rel P Z X st a w) (tok : Nat) : Rel P Z X (st.give tok) a w := by
  have m : Moves X X st.b (st.give tok).b w w (PC.atTok tok) := by
    refine ⟨rfl, fun _ => Nat.le_refl _, Keeps.refl _ _ _, fun _ _ _ _ => rfl, fun p t hp ht => ⟨rfl, fun B hB => ⟨B, ?_, rfl, rfl⟩⟩, fun _ _ _ _ _ _ _ _ _ => rfl⟩
    have hne : t ≠ tok := fun e => by subst e; rw [hp] at ht; simp at ht
    simp only [St.give, kill_b]
    rw [look_dropTok, if_neg hne]; exact hB
  have hl : ∀ t B, look (st.give tok).b t = some B → look st.b t = some B := by
    intro t B ht
    simp only [St.give, kill_b] at ht
    rw [look_dropTok] at ht
    split at ht
    · cases ht
    · exact ht
  refine { O := h.O, evo := h.evo, nt := h.nt, defers := h.defers, t := ?_, r := ?_, b := fun t B hB => h.b t B (hl t B hB), rr := ?_, rb := ?_, bb := fun t t' B B' b cap b' cap' h1 h2 => h.bb t t' B B' b cap b' cap' (hl _ _ h1) (hl _ _ h2) }
  · intro n pv hn
    obtain ⟨pv', hn', rfl⟩ := kill_t_some (st := st) (f := PC.atTok tok) hn
    exact RelP.kill_step m _ _ (h.t n _ hn')
  · intro r c hr
    obtain ⟨c', hr', rfl⟩ := kill_row_some (st := st) (f := PC.atTok tok) hr
    exact RowOk.kill_step m rfl rfl rfl (h.r r _ hr')
  · intro r r' c c' hr hr'
    obtain ⟨_, hr, _⟩ := kill_row_some (st := st) (f := PC.atTok tok) hr
    obtain ⟨_, hr', _⟩ := kill_row_some (st := st) (f := PC.atTok tok) hr'
    exact h.rr r r' _ _ hr hr'
  · intro r c t B b cap hr hB hb
    obtain ⟨_, hr, _⟩ := kill_row_some (st := st) (f := PC.atTok tok) hr
    exact h.rb r _ t B b cap hr (hl _ _ hB) hb
theorem give_look {st : St} {tok t : Nat} {B : Buf} (h : look (st.give tok).b t = some B) : t ≠ tok ∧ look st.b t = some B := by
  simp only [St.give, kill_b] at h
  rw [look_dropTok] at h
  split at h
  · cases h
  · rename_i e; exact ⟨e, h⟩
theorem give_row {st : St} {tok r : Nat} {c : List PC} (h : (st.give tok).row r = some c) : ∃ c', st.row r = some c' := by
  obtain ⟨c', h', _⟩ := kill_row_some (st := st) (f := PC.atTok tok) h
  exact ⟨c', h'⟩
theorem Rel.moved : ∀ (as : List AS) (vs : List PV) {st : St}, Rel P Z X st a w → Rel P Z X (st.moved as vs) a w ∧
    (∀ t B, look (st.moved as vs).b t = some B → t ∉ mvToks as vs ∧ look st.b t = some B) ∧ (∀ r c, (st.moved as vs).row r = some c → ∃ c', st.row r = some c')
  | [], vs, st, h => by
    have e : st.moved [] vs = st := by cases vs <;> rfl
    rw [e]; exact ⟨h, fun t B hB => ⟨by cases vs <;> simp [mvToks], hB⟩, fun r c hc => ⟨c, hc⟩⟩
  | c :: as, [], st, h => ⟨h, fun t B hB => ⟨by simp [mvToks], hB⟩, fun r c hc => ⟨c, hc⟩⟩
  | c :: as, v :: vs, st, h => by
    simp only [St.moved]
    cases e : mvTok c v with
    | none =>
      obtain ⟨h1, h2, h3⟩ := Rel.moved as vs h
      exact ⟨h1, fun t B hB => by simpa [mvToks, e] using h2 t B hB, h3⟩
    | some tok =>
      obtain ⟨h1, h2, h3⟩ := Rel.moved as vs (h.give tok)
      refine ⟨h1, fun t B hB => ?_, fun r c hc => ?_⟩
      · obtain ⟨n1, n2⟩ := h2 t B hB
        obtain ⟨n3, n4⟩ := give_look n2
        exact ⟨by simp [mvToks, e, n1, n3], n4⟩
      · obtain ⟨c', hc'⟩ := h3 r c hc
        exact give_row hc'

/-- A block that nothing of the state has. -/
structure Out (Z : At0) (X : Cx) (st : St) (b : Nat) : Prop where
  O : ¬ X.O b
  row : ∀ r c, st.row r = some c → X.ρ r ≠ b
  buf : ∀ t B cap, look st.b t = some B → X.β t ≠ some (b, cap)
theorem Rel.growM (h : Rel P Z X st a w) {M : List Nat} {F' : Nat → Nat} (e : Evo M X.F F' w w') (hM : ∀ b, b ∈ M → X.F b = 0 ∧ Out Z X st b) : Rel P Z { X with F := F' } st a w' := by
  have hrow : ∀ r c, st.row r = some c → X.ρ r ∉ M := fun r c hr hm => (hM _ hm).2.row r c hr rfl
  have hbuf : ∀ t B b cap, look st.b t = some B → X.β t = some (b, cap) → b ∉ M := fun t B b cap hB hb hm => (hM _ hm).2.buf t B cap hB hb
  have hK : Keeps X.O X.F w w' := by
    refine ⟨e.size, fun b hb => e.block b (h.oldO b hb) fun hm => (hM b hm).2.O hb, fun b o ho => cell_of_heap (e.block b ?_ fun hm => ?_)⟩
    · rcases Nat.lt_or_ge b w.heap.size with h' | h'
      · exact h'
      · have := h.fnew b h'; omega
    · have := (hM b hm).1; omega
  have m : Moves X { X with F := F' } st.b st.b w w' (fun _ => false) :=
    ⟨rfl, e.fge, hK, fun _ _ _ _ => rfl, fun _ t _ _ => ⟨rfl, fun B hB => ⟨B, hB, rfl, rfl⟩⟩, fun p t _ ht B b cap hB hb => e.block b (h.buf_lt hB hb) (hbuf t B b cap hB hb)⟩
  refine { O := h.O, evo := ?_, nt := h.nt, defers := h.defers, t := fun n pv hn => RelP.step m (h.t n pv hn), r := fun r c hr => ?_, b := fun t B hB => ?_, rr := h.rr, rb := h.rb, bb := h.bb }
  · have hO : ∀ b, b < Z.w0.heap.size → b ∉ Z.M0 → b ∉ M := fun b hb hm hmm => (hM b hmm).2.O (by rw [h.O]; exact ⟨hb, hm⟩)
    exact ⟨e.os.trans h.evo.os, e.tape.trans h.evo.tape, Nat.le_trans h.evo.drawn e.drawn, e.output.trans h.evo.output, Nat.le_trans h.evo.size e.size,
      fun b hb hm => (e.block b (Nat.lt_of_lt_of_le hb h.evo.size) (hO b hb hm)).trans (h.evo.block b hb hm),
      fun b hb hm => (e.fold b (Nat.lt_of_lt_of_le hb h.evo.size) (hO b hb hm)).trans (h.evo.fold b hb hm), fun b => Nat.le_trans (h.evo.fge b) (e.fge b), e.fnew⟩
  · exact RowOk.step m rfl (e.fold _ (h.row_lt hr) (hrow r c hr)) (e.block _ (h.row_lt hr) (hrow r c hr)) (h.r r c hr)
  · exact BufOk.step m rfl (fun b cap hb => ⟨e.fold _ (h.buf_lt hB hb) (hbuf t B b cap hB hb), e.block _ (h.buf_lt hB hb) (hbuf t B b cap hB hb)⟩) (h.b t B hB)

theorem look_newBuf (st : St) (tok : Nat) (B : Buf) (t : Nat) : look (st.newBuf tok B).b t = if t = tok then some B else look st.b t := by
  simp only [St.newBuf, Go.PgAM.put, look_cons, kill_b]
  by_cases e : tok = t
  · subst e; simp
  · rw [if_neg e, if_neg (fun x => e x.symm)]
theorem newBufs_append (l1 l2 : List (Nat × Buf)) : ∀ (st : St), newBufs st (l1 ++ l2) = newBufs (newBufs st l1) l2 := by
  induction l1 with
  | nil => intro st; rfl
  | cons x l1 ih => intro st; exact ih _
theorem RepV.dcells {O : Nat → Prop} {F : Nat → Nat} {cs : Scs} {x : cs.I} {cells : Array Value} {bs : List (Nat × Buf)} (hO : X.O = O) (hF : X.F = F) (hs : cells.size = cs.size) (h : RepCs P cs O F w x fun j => cells[j]?) :
    All2 (RelK P X bs w) ((cs.cells x).map .d) cells.toList := by
  have hl := cells_length cs x
  refine All2.of_get (by simp [hl, hs]) fun j p u hj hu => ?_
  simp only [List.getElem?_map, Option.map_eq_some_iff] at hj
  obtain ⟨c, hc, rfl⟩ := hj
  obtain ⟨u', hu', hr⟩ := RepCs.cells cs h j c hc
  have : u' = u := by
    simp at hu hu'
    rw [hu] at hu'; simpa using hu'.symm
  subst this
  subst hO; subst hF
  have hr : RelC P X bs w (.d c) u' := hr
  exact ⟨hr, hr.one (by simp) (by simp)⟩
theorem Rel.new1 (h : Rel P Z X st a w) (d : Nat) {r : RS} {x : r.I} {u : Value} {q : Option (Nat × Nat)} (hr : ResOk P X.F w r x u q) (ho : ∀ b cap, q = some (b, cap) → Out Z X st b) :
    ∃ X1, Rel P Z X1 (newBufs st (r.val d x).2) a w ∧ X1.O = X.O ∧ X1.F = X.F ∧ X1.ρ = X.ρ ∧ (∀ t, t ≠ d → X1.β t = X.β t ∧ look (newBufs st (r.val d x).2).b t = look st.b t) ∧
      (∀ r' c, (newBufs st (r.val d x).2).row r' = some c → ∃ c', st.row r' = some c') ∧
      (∀ b, Out Z X st b → (∀ cap, q ≠ some (b, cap)) → Out Z X1 (newBufs st (r.val d x).2) b) ∧
      (∀ B, look st.b d = none → look (newBufs st (r.val d x).2).b d = some B → X1.β d = q) ∧
      ∀ (X' : Cx) bs', X'.O = X.O → X'.F = X.F → X'.β d = X1.β d → look bs' d = look (newBufs st (r.val d x).2).b d → RelTC P X' bs' w (r.val d x).1 u := by
  cases r with
  | d v =>
    obtain ⟨_, g, hw, hv⟩ := hr
    have hv := RepV.mono (O' := X.O) (fun _ h => h.elim) (fun _ => Nat.le_refl _) (Keeps.refl _ _ _) v x g g (fun _ _ => rfl) hv
    have e : (RS.val d (.d v) x).2 = [] := by cases v <;> rfl
    rw [e]
    refine ⟨X, h, rfl, rfl, rfl, fun _ _ => ⟨rfl, rfl⟩, fun r' c hc => ⟨c, hc⟩, fun b hb _ => hb, (fun B h1 h2 => by rw [show look (newBufs st []).b d = look st.b d from rfl, h1] at h2; cases h2), fun X' bs' hO hF _ _ => ?_⟩
    cases v with
    | sc s =>
      simp only [Whole] at hw
      subst hw
      simp only [RepV] at hv
      obtain ⟨u', hu, hs⟩ := hv
      cases hu
      rw [← hO, ← hF] at hs
      have hs : RelC P X' bs' w (.d ⟨s, x⟩) u := hs
      exact ⟨⟨hs, hs.one (by simp) (by simp)⟩, trivial⟩
    | ag cs =>
      obtain ⟨cells, rfl, hsz, rfl⟩ := hw
      simp only [RepV] at hv
      exact ⟨cells, rfl, RepV.dcells hO hF hsz hv⟩
  | fresh e =>
    have key : ∀ q, BufVal P (fun _ => False) X.F w e x u q → (∀ b cap, q = some (b, cap) → Out Z X st b) → BufOk P { X with β := upd X.β d q } w d ⟨true, e, x⟩ ∧ SlAt (upd X.β d q) d (List.length (α := e.I) x) u := by
      intro q hq ho
      cases q with
      | none =>
        obtain ⟨h0, a', hu⟩ := hq
        simp only [BufOk, SlAt, upd_same]
        exact ⟨h0, h0, a', hu⟩
      | some q =>
        obtain ⟨b, cap⟩ := q
        obtain ⟨hu, hF, hle, cs, el, hh, hs, hel⟩ := hq
        simp only [BufOk, SlAt, upd_same]
        refine ⟨⟨(ho b cap rfl).O, by simp [hF], hle, cs, el, hh, hs, fun i hi => ?_⟩, hu⟩
        exact RepV.mono (O' := X.O) (fun _ h => h.elim) (fun _ => Nat.le_refl _) (Keeps.refl _ _ _) e _ _ _ (fun _ _ => rfl) (hel i hi)
    obtain ⟨k1, k2⟩ := key q hr ho
    have hst : newBufs st (RS.val d (.fresh e) x).2 = st.newBuf d ⟨true, e, x⟩ := rfl
    rw [hst]
    refine ⟨{ X with β := upd X.β d q }, h.newBuf d _ q k1 (fun b cap e r c hr => (ho b cap e).row r c hr) (fun b cap e t B' b' cap' ht hB' hb' e2 => ?_), rfl, rfl, rfl, fun t ht => ⟨upd_ne _ _ ht, by rw [look_newBuf, if_neg ht]⟩, fun r' c hc => ?_, fun b hb hq => ?_, fun _ _ _ => upd_same _ _ _, fun X' bs' hO hF hβ hl => ?_⟩
    · subst e2; exact (ho b' cap e).buf t B' cap' hB' hb'
    · obtain ⟨c', hc', _⟩ := kill_row_some (st := st) (f := PC.atTok d) hc
      exact ⟨c', hc'⟩
    · refine ⟨hb.O, fun r c hr => ?_, fun t B cap hB hβ => ?_⟩
      · obtain ⟨c', hr', _⟩ := kill_row_some (st := st) (f := PC.atTok d) hr
        exact hb.row r c' hr'
      · rw [look_newBuf] at hB
        by_cases e : t = d
        · subst e; simp only [upd_same] at hβ; exact hq cap hβ
        · rw [if_neg e] at hB
          simp only [upd_ne _ _ e] at hβ; exact hb.buf t B cap hB hβ
    · rw [look_newBuf, if_pos rfl] at hl
      have : RelC P X' bs' w (.own d) u := by
        refine ⟨_, hl, ?_⟩
        unfold SlAt at k2 ⊢
        rw [hβ]; exact k2
      exact ⟨⟨this, this.one (by simp) (by simp)⟩, trivial⟩
theorem nodup_split {q : Option (Nat × Nat)} {qs : List (Option (Nat × Nat))} (h : (blk (q :: qs)).Nodup) : (blk qs).Nodup ∧ ∀ b, b ∈ blk qs → ∀ cap, q ≠ some (b, cap) := by
  cases q with
  | none => exact ⟨h, fun _ _ _ e => by cases e⟩
  | some q =>
    obtain ⟨b, cap⟩ := q
    simp only [blk, List.nodup_cons] at h
    exact ⟨h.2, fun b' hb' cap' e => by cases e; exact h.1 hb'⟩
theorem Rel.news : ∀ (rs : List RS) (d : Nat) {X : Cx} {st : St} {y : RSs.I rs} {vs : List Value} {ps : List (Option (Nat × Nat))}, Rel P Z X st a w → RessOk P X.F w rs y vs ps → (blk ps).Nodup → (∀ b, b ∈ blk ps → Out Z X st b) →
    ∃ X', Rel P Z X' (newBufs st (RSs.vals d rs y).2) a w ∧ X'.O = X.O ∧ X'.F = X.F ∧ X'.ρ = X.ρ ∧ (∀ t, (t < d ∨ d + rs.length ≤ t) → X'.β t = X.β t ∧ look (newBufs st (RSs.vals d rs y).2).b t = look st.b t) ∧
      (∀ t B b cap, look st.b t = none → look (newBufs st (RSs.vals d rs y).2).b t = some B → X'.β t = some (b, cap) → b ∈ blk ps) ∧
      All2 (RelTC P X' (newBufs st (RSs.vals d rs y).2).b w) (RSs.vals d rs y).1 vs
  | [], d, X, st, y, vs, ps, h, hr, hn, ho => by
    obtain ⟨rfl, rfl⟩ := hr
    exact ⟨X, h, rfl, rfl, rfl, fun _ _ => ⟨rfl, rfl⟩, (fun t B b cap h1 h2 _ => by rw [show look (newBufs st (RSs.vals d [] y).2).b t = look st.b t from rfl, h1] at h2; cases h2), trivial⟩
  | [r], d, X, st, y, vs, ps, h, hr, hn, ho => by
    obtain ⟨u, q, rfl, rfl, hr⟩ := hr
    obtain ⟨X1, h1, h2, h3, h4, h5, _, _, h9, h8⟩ := h.new1 d hr fun b cap e => ho b (by subst e; simp [blk])
    refine ⟨X1, h1, h2, h3, h4, fun t ht => h5 t (by simp at ht; omega), fun t B b cap n1 n2 n3 => ?_, h8 X1 _ h2 h3 rfl rfl, trivial⟩
    by_cases e : t = d
    · subst e
      have := h9 B n1 n2
      rw [n3] at this; subst this; simp [blk]
    · have := (h5 t e).2
      rw [n1] at this
      exact absurd (n2.symm.trans this) (by simp)
  | r :: r' :: rs, d, X, st, y, vs, ps, h, hr, hn, ho => by
    obtain ⟨u, us', q, qs', rfl, rfl, hr, hr'⟩ := hr
    obtain ⟨n1, n2⟩ := nodup_split hn
    obtain ⟨X1, h1, h2, h3, h4, h5, h6, h7, h9, h8⟩ := h.new1 d hr fun b cap e => ho b (by subst e; simp [blk])
    obtain ⟨X', k1, k2, k3, k4, k5, k7, k6⟩ := Rel.news (r' :: rs) (d + 1) h1 (by rw [h3]; exact hr') n1 fun b hb => h7 b (ho b (by
      cases q with
      | none => exact hb
      | some q => simp [blk, hb])) (n2 b hb)
    have e : newBufs st (RSs.vals d (r :: r' :: rs) y).2 = newBufs (newBufs st (r.val d y.1).2) (RSs.vals (d + 1) (r' :: rs) y.2).2 := newBufs_append _ _ _
    rw [e]
    refine ⟨X', k1, k2.trans h2, k3.trans h3, k4.trans h4, fun t ht => ?_, fun t B b cap n1 n2 n3 => ?_, h8 X' _ (k2.trans h2) (k3.trans h3) (k5 d (.inl (by omega))).1 (k5 d (.inl (by omega))).2, k6⟩
    · have ht' : t < d + 1 ∨ d + 1 + (r' :: rs).length ≤ t := by simp at ht ⊢; omega
      have hne : t ≠ d := by simp at ht; omega
      exact ⟨(k5 t ht').1.trans (h5 t hne).1, (k5 t ht').2.trans (h5 t hne).2⟩
    · have tail : b ∈ blk qs' → b ∈ blk (q :: qs') := fun hb => by
        cases q with
        | none => exact hb
        | some q => simp [blk, hb]
      by_cases e : t = d
      · subst e
        have hk := k5 t (.inl (by omega))
        rw [hk.2] at n2
        have := h9 B n1 n2
        rw [hk.1, this] at n3
        subst n3; simp [blk]
      · exact tail (k7 t B b cap ((h5 t e).2.trans n1) n2 n3)
theorem pack_ok {bs : List (Nat × Buf)} {xs : List (Bool × List PC)} {us : List Value} (h : All2 (RelTC P X bs w) xs us) : RelP P X bs w (packPV xs) (packV us) := by
  have tup : (∀ u, us ≠ [u]) → RelP P X bs w (.tup xs) (packV us) := by
    intro hne
    have : packV us = .tuple us.toArray := by
      unfold packV; split
      · exact absurd rfl (hne _)
      · rfl
    rw [this]
    exact ⟨_, rfl, by simpa using h⟩
  match xs, us, h with
  | [], [], h => exact tup fun u e => by cases e
  | [x], [u], h =>
    obtain ⟨ag, ps⟩ := x
    obtain ⟨h, _⟩ := h
    cases ag with
    | true => exact h
    | false =>
      match ps, h with
      | [p], h => exact h.1.1
  | x :: x' :: xs, u :: u' :: us, h => 
    have : packPV (x :: x' :: xs) = .tup (x :: x' :: xs) := by
      unfold packPV; split
      · rename_i e; cases e
      · rename_i e; cases e
      · rfl
    rw [this]
    exact tup fun u e => by cases e
/-- Results in their slots. -/
theorem Rel.results (h : Rel P Z X st a w) {dst : Option Nat} (hd : ∀ n, dst = some n → Z.ok n) {rs : List RS} {y : RSs.I rs} {vs : List Value} {ps : List (Option (Nat × Nat))} (hr : RessOk P X.F w rs y vs ps) (hn : (blk ps).Nodup)
    (ho : ∀ b, b ∈ blk ps → Out Z X st b) : ∃ X', Rel P Z X' (st.results dst rs y) (a.put dst (packV vs)) w ∧ X'.F = X.F ∧ X'.ρ = X.ρ ∧
      (∀ t, (∀ d, dst = some d → t < RSs.tok d rs ∨ RSs.tok d rs + rs.length ≤ t) → X'.β t = X.β t ∧ look (st.results dst rs y).b t = look st.b t) ∧
      ∀ t B b cap, look st.b t = none → look (st.results dst rs y).b t = some B → X'.β t = some (b, cap) → b ∈ blk ps := by
  cases dst with
  | none => exact ⟨X, h, rfl, rfl, fun _ _ => ⟨rfl, rfl⟩, fun t B b cap h1 h2 _ => by rw [show look (st.results none rs y).b t = look st.b t from rfl, h1] at h2; cases h2⟩
  | some d =>
    obtain ⟨X', h1, _, h3, h4, h5, h7, h6⟩ := Rel.news rs (RSs.tok d rs) h hr hn ho
    exact ⟨X', h1.put (hd d rfl) (pack_ok h6), h3, h4, fun t ht => h5 t (ht d rfl), h7⟩
end Go.PgAM

/-
  A call of a function by its contract.
-/
namespace Go.PgAM
open Go Go.RowKit
set_option linter.unusedVariables false
variable {P : Program} {Z : At0} {X X' : Cx} {st st' : St} {a a' : Act} {w w' w'' : World}

/-- All that there was stays. -/
structure Ext (w w' : World) : Prop where
  os : w'.os = w.os
  tape : w'.tape = w.tape
  drawn : w.drawn ≤ w'.drawn
  output : w'.output = w.output
  size : w.heap.size ≤ w'.heap.size
  block : ∀ b, b < w.heap.size → w'.heap[b]? = w.heap[b]?
theorem Ext.refl (w : World) : Ext w w := ⟨rfl, rfl, Nat.le_refl _, rfl, Nat.le_refl _, fun _ _ => rfl⟩
theorem Ext.trans (h : Ext w w') (k : Ext w' w'') : Ext w w'' :=
  ⟨k.os.trans h.os, k.tape.trans h.tape, Nat.le_trans h.drawn k.drawn, k.output.trans h.output, Nat.le_trans h.size k.size, fun b hb => (k.block b (Nat.lt_of_lt_of_le hb h.size)).trans (h.block b hb)⟩
theorem Evo.ext {F F' : Nat → Nat} (e : Evo [] F F' w w') : Ext w w' := ⟨e.os, e.tape, e.drawn, e.output, e.size, fun b hb => e.block b hb (by simp)⟩
theorem Ext.evo (e : Ext w w') {F : Nat → Nat} (hF : ∀ b, w.heap.size ≤ b → F b = 0) : Evo [] F F w w' :=
  ⟨e.os, e.tape, e.drawn, e.output, e.size, fun b hb _ => e.block b hb, fun _ _ _ => rfl, fun _ => Nat.le_refl _, fun b hb => hF b (Nat.le_trans e.size hb)⟩
theorem alloc_ext (w : World) (o : Obj) : Ext w (w.alloc o) := (alloc_evo (fun _ => 0) w o fun _ _ => rfl).ext

/-- What an operation that writes nothing old brings about. -/
structure Step (X X' : Cx) (st st' : St) (w w' : World) (o : Option Nat) : Prop where
  ext : Ext w w'
  F : ∀ b, b < w.heap.size → X'.F b = X.F b ∨ ∃ t B cap, look st.b t = some B ∧ X.β t = some (b, cap)
  Fge : ∀ b, X.F b ≤ X'.F b
  ρ : ∀ r, o ≠ some r → X'.ρ r = X.ρ r
  ρn : ∀ r, X'.ρ r = X.ρ r ∨ w.heap.size ≤ X'.ρ r
  β : ∀ t, (∀ d, o = some d → tokOf d t = false) → X'.β t = X.β t ∧ ∀ B, look st.b t = some B → ∃ x, look st'.b t = some { B with x := x }
  βn : (∀ d t, o = some d → tokOf d t = true → look st.b t = none) → ∀ d t B b cap, o = some d → tokOf d t = true → look st'.b t = some B → X'.β t = some (b, cap) → w.heap.size ≤ b
theorem Step.same {o : Option Nat} (v : PV) : Step X X st (st.setT o v) w w o := by
  have hb : (st.setT o v).b = st.b := by cases o <;> rfl
  refine ⟨Ext.refl _, fun _ _ => .inl rfl, fun _ => Nat.le_refl _, fun _ _ => rfl, fun _ => .inl rfl, fun t _ => ⟨rfl, fun B hB => ⟨B.x, by rw [hb]; exact hB⟩⟩, fun hf d t B b cap e ht hB _ => ?_⟩
  rw [hb, hf d t e ht] at hB; cases hB

theorem share_row (r : Nat) : ∀ (ts : List Nat) (st : St), (st.share ts).row r = st.row r
  | [], st => rfl
  | t :: ts, st => by
    simp only [St.share]
    rw [share_row r ts]
    cases look st.b t <;> rfl
theorem share_t : ∀ (ts : List Nat) (st : St), (st.share ts).t = st.t
  | [], st => rfl
  | t :: ts, st => by
    simp only [St.share]
    rw [share_t ts]
    cases look st.b t <;> rfl
theorem share_look : ∀ (ts : List Nat) (st : St) (t : Nat) (B : Buf), look st.b t = some B → ∃ x, look (st.share ts).b t = some { B with x := x } ∧ (t ∉ ts → x = B.x)
  | [], st, t, B, h => ⟨B.x, h, fun _ => rfl⟩
  | t' :: ts, st, t, B, h => by
    simp only [St.share]
    cases e : look st.b t' with
    | none =>
      obtain ⟨x, h1, h2⟩ := share_look ts st t B h
      exact ⟨x, h1, fun hn => h2 fun hm => hn (by simp [hm])⟩
    | some B' =>
      by_cases e2 : t' = t
      · subst e2
        have : B' = B := Option.some.inj (e.symm.trans h)
        subst this
        obtain ⟨x, h1, _⟩ := share_look ts { st with b := Go.PgAM.put st.b t' { B' with x := false } } t' { B' with x := false } (by simp [Go.PgAM.put, look_cons])
        exact ⟨x, h1, fun hn => absurd (by simp) hn⟩
      · obtain ⟨x, h1, h2⟩ := share_look ts { st with b := Go.PgAM.put st.b t' { B' with x := false } } t B (by rw [Go.PgAM.put, look_cons, if_neg e2]; exact h)
        exact ⟨x, h1, fun hn => h2 fun hm => hn (by simp [hm])⟩
theorem share_none : ∀ (ts : List Nat) (st : St) (t : Nat), look st.b t = none → look (st.share ts).b t = none
  | [], st, t, h => h
  | t' :: ts, st, t, h => by
    simp only [St.share]
    cases e : look st.b t' with
    | none => exact share_none ts st t h
    | some B' =>
      refine share_none ts _ t ?_
      show look ((t', { B' with x := false }) :: st.b) t = none
      rw [look_cons]
      by_cases e2 : t' = t
      · subst e2; rw [h] at e; cases e
      · rw [if_neg e2]; exact h
theorem share_some {ts : List Nat} {st : St} {t : Nat} {B : Buf} (h : look (st.share ts).b t = some B) : ∃ x, look st.b t = some { B with x := x } := by
  cases e : look st.b t with
  | none => rw [share_none ts st t e] at h; cases h
  | some B' =>
    obtain ⟨x, h1, _⟩ := share_look ts st t B' e
    rw [h1] at h
    have := Option.some.inj h
    subst this
    exact ⟨B'.x, rfl⟩

theorem memb_iff : ∀ {l : List Nat} {n : Nat}, memb l n = true ↔ n ∈ l
  | [], n => by simp [memb]
  | m :: l, n => by
    simp only [memb, List.mem_cons]
    by_cases e : m = n
    · subst e; simp
    · have : Nat.beq m n = false := by rw [Bool.eq_false_iff]; exact fun h' => e (Nat.eq_of_beq_eq_true h')
      simp only [this, cond_false]
      rw [memb_iff]
      constructor
      · exact .inr
      · rintro (h | h)
        · exact absurd h.symm e
        · exact h
theorem memb_false {l : List Nat} {n : Nat} (h : memb l n = false) : n ∉ l := fun hm => by rw [memb_iff.2 hm] at h; cases h
theorem apartB_ok {ts : List Nat} : ∀ {ms : List Nat}, apartB ts ms = true → ms.Nodup ∧ ∀ m, m ∈ ms → m ∉ ts
  | [], _ => ⟨List.nodup_nil, by simp⟩
  | m :: ms, h => by
    simp only [apartB] at h
    cases h1 : memb ts m with
    | true => simp [h1] at h
    | false =>
      cases h2 : memb ms m with
      | true => simp [h1, h2] at h
      | false =>
        simp only [h1, h2, cond_false] at h
        obtain ⟨k1, k2⟩ := apartB_ok h
        refine ⟨List.nodup_cons.2 ⟨memb_false h2, k1⟩, fun m' hm => ?_⟩
        rcases List.mem_cons.1 hm with rfl | hm
        · exact memb_false h1
        · exact k2 m' hm
theorem mvQs_nodup {β : Nat → Option (Nat × Nat)} : ∀ {as : List AS} {vs : List PV}, (mvToks as vs).Nodup →
    (∀ t t' b cap cap', t ∈ mvToks as vs → t' ∈ mvToks as vs → β t = some (b, cap) → β t' = some (b, cap') → t = t') → (blk (mvQs β as vs)).Nodup
  | [], [], _, _ => by simp [mvQs, blk]
  | [], _ :: _, _, _ => by simp [mvQs, blk]
  | _ :: _, [], _, _ => by simp [mvQs, blk]
  | a :: as, v :: vs, h, hi => by
    simp only [mvQs]
    cases e : mvTok a v with
    | none =>
      simp only [mvToks, e, Option.toList_none, List.nil_append] at h hi
      exact mvQs_nodup h hi
    | some t =>
      simp only [mvToks, e, Option.toList_some, List.singleton_append, List.nodup_cons] at h hi
      have ih := mvQs_nodup h.2 fun t t' b cap cap' h1 h2 => hi t t' b cap cap' (by simp [h1]) (by simp [h2])
      simp only [Option.bind_some]
      cases e2 : β t with
      | none => exact ih
      | some q =>
        obtain ⟨b, cap⟩ := q
        simp only [blk, List.nodup_cons]
        refine ⟨fun hm => ?_, ih⟩
        obtain ⟨cap', hm⟩ := mem_blk.1 hm
        obtain ⟨t', h1, h2⟩ := mvQs_mem hm
        have := hi t t' b cap cap' (by simp) (by simp [h1]) e2 h2
        subst this; exact h.1 h1

section nosl
variable {O O' : Nat → Prop} {F F' : Nat → Nat}
mutual
theorem RepS.noSl : (s : Sc) → s.hasSl = false → {x : s.I} → {v : Value} → RepS P s O F w x v → RepS P s O' F' w' x v
  | .int k, _, x, v, h => by simpa only [RepS] using h
  | .bool, _, x, v, h => by simpa only [RepS] using h
  | .str, _, x, v, h => by simpa only [RepS] using h
  | .sl e, hs, x, v, h => by simp [Sc.hasSl] at hs
  | .fn a r, hs, x, v, h => by simp [Sc.hasSl] at hs
theorem RepV.noSl : (t : VT) → t.hasSl = false → {x : t.I} → {g : Nat → Option Value} → RepV P t O F w x g → RepV P t O' F' w' x g
  | .sc s, hs, x, g, h => by
    simp only [RepV] at h ⊢
    obtain ⟨u, hu, hr⟩ := h
    exact ⟨u, hu, RepS.noSl s (by simpa [VT.hasSl] using hs) hr⟩
  | .ag cs, hs, x, g, h => by
    simp only [RepV] at h ⊢
    exact RepCs.noSl cs (by simpa [VT.hasSl] using hs) h
theorem RepCs.noSl : (t : Scs) → t.hasSl = false → {x : t.I} → {g : Nat → Option Value} → RepCs P t O F w x g → RepCs P t O' F' w' x g
  | .nil, hs, x, g, h => by simp only [RepCs]
  | .cons s .nil, hs, x, g, h => by
    simp only [RepCs] at h ⊢
    simp only [Scs.hasSl, Bool.or_false] at hs
    obtain ⟨u, hu, hr⟩ := h
    exact ⟨u, hu, RepS.noSl s hs hr⟩
  | .cons s (.cons s' r), hs, x, g, h => by
    simp only [RepCs] at h ⊢
    have hs1 : s.hasSl = false ∧ (Scs.cons s' r).hasSl = false := by
      rw [Scs.hasSl] at hs; simpa using hs
    obtain ⟨⟨u, hu, hr⟩, h2⟩ := h
    exact ⟨⟨u, hu, RepS.noSl s hs1.1 hr⟩, RepCs.noSl (.cons s' r) hs1.2 h2⟩
end
theorem ResOk.noSl {r : RS} (hs : r.hasSl = false) {x : r.I} {u : Value} {q : Option (Nat × Nat)} (hF : ∀ b cap, q = some (b, cap) → F' b = F b) (h : ResOk P F w r x u q) : ResOk P F' w r x u q := by
  cases r with
  | d v =>
    obtain ⟨h1, g, h2, h3⟩ := h
    exact ⟨h1, g, h2, RepV.noSl v hs h3⟩
  | fresh e =>
    cases q with
    | none => exact h
    | some q =>
      obtain ⟨b, cap⟩ := q
      obtain ⟨h1, h2, h3, cs, el, h4, h5, h6⟩ := h
      exact ⟨h1, (hF b cap rfl).trans h2, h3, cs, el, h4, h5, fun i hi => RepV.noSl e hs (h6 i hi)⟩
theorem RessOk.noSl : ∀ {rs : List RS}, rs.any RS.hasSl = false → ∀ {x : RSs.I rs} {us : List Value} {qs : List (Option (Nat × Nat))}, (∀ b, b ∈ blk qs → F' b = F b) → RessOk P F w rs x us qs → RessOk P F' w rs x us qs
  | [], _, x, us, qs, _, h => h
  | [r], hs, x, us, qs, hF, h => by
    obtain ⟨u, q, rfl, rfl, h⟩ := h
    exact ⟨u, q, rfl, rfl, ResOk.noSl (by simpa using hs) (fun b cap e => hF b (by subst e; simp [blk])) h⟩
  | r :: r' :: rs, hs, x, us, qs, hF, h => by
    obtain ⟨u, us', q, qs', rfl, rfl, h, h'⟩ := h
    have hs : r.hasSl = false ∧ (r' :: rs).any RS.hasSl = false := by simpa using hs
    exact ⟨u, us', q, qs', rfl, rfl, ResOk.noSl hs.1 (fun b cap e => hF b (by subst e; simp [blk])) h, RessOk.noSl hs.2 (fun b hb => hF b (by
      cases q with
      | none => exact hb
      | some q => simp [blk, hb])) h'⟩
end nosl

theorem Shown.of_call (h : Rel P Z X st a w) {as : List AS} {args : List PV} {C : Tab} {z : ASs.I as} (hz : decArgs C st as args = some z)
    (hap : apartB (args.flatMap PV.ptrs ++ keptToks st as args) (mvToks as args) = true) {F1 : Nat → Nat} (f1 : ∀ b, X.F b ≤ F1 b)
    (f3 : ∀ t B b cap, t ∈ keptToks st as args → look st.b t = some B → X.β t = some (b, cap) → B.xs.length * B.e.size ≤ F1 b) :
    Shown X st (fun b => b < w.heap.size ∧ b ∉ blk (mvQs X.β as args)) F1 (keptToks st as args) ∧ (blk (mvQs X.β as args)).Nodup ∧
      (∀ b, b ∈ blk (mvQs X.β as args) → ∃ tok B cap, tok ∈ mvToks as args ∧ X.β tok = some (b, cap) ∧ look st.b tok = some B ∧ B.x = true) := by
  obtain ⟨n1, n2⟩ := apartB_ok hap
  have hq : ∀ b, b ∈ blk (mvQs X.β as args) → ∃ tok B cap, tok ∈ mvToks as args ∧ X.β tok = some (b, cap) ∧ look st.b tok = some B ∧ B.x = true := by
    intro b hb
    obtain ⟨cap, hm⟩ := mem_blk.1 hb
    obtain ⟨tok, h1, h2⟩ := mvQs_mem hm
    obtain ⟨B, hB, hx⟩ := decArgs_mv hz tok h1
    exact ⟨tok, B, cap, h1, h2, hB, hx⟩
  refine ⟨⟨fun b hb => ⟨h.oldO b hb, fun hm => ?_⟩, f1, fun r cells hr => ⟨h.row_lt hr, fun hm => ?_⟩, fun t ht B b cap hB hb => f3 t B b cap ht hB hb⟩, ?_, hq⟩
  · obtain ⟨tok, B, cap, h1, h2, hB, hx⟩ := hq b hm
    have := h.b tok B hB
    simp only [BufOk, h2] at this
    exact this.1 hb
  · obtain ⟨tok, B, cap, h1, h2, hB, hx⟩ := hq _ hm
    exact h.rb r cells tok B _ cap hr hB h2 rfl
  · refine mvQs_nodup n1 fun t t' b cap cap' h1 h2 hb hb' => ?_
    obtain ⟨B, hB, _⟩ := decArgs_mv hz t h1
    obtain ⟨B', hB', _⟩ := decArgs_mv hz t' h2
    rcases Nat.decEq t t' with hne | e
    · exact absurd rfl (h.bb t t' B B' b cap b cap' hB hB' hb hb' hne)
    · exact e

theorem noMv_moved : ∀ {as : List AS}, as.any AS.isMv = false → ∀ (args : List PV), mvToks as args = [] ∧ ∀ s : St, s.moved as args = s
  | [], _, args => by cases args <;> exact ⟨rfl, fun _ => rfl⟩
  | c :: as, h, [] => ⟨rfl, fun _ => rfl⟩
  | c :: as, h, v :: vs => by
    have hnm : c.isMv = false ∧ as.any AS.isMv = false := by simpa using h
    have e : mvTok c v = none := by
      cases c with
      | mv e => cases hnm.1
      | d _ => rfl
      | ref _ => rfl
    obtain ⟨i1, i2⟩ := noMv_moved hnm.2 vs
    exact ⟨by simp [mvToks, e, i1], fun s => by simp only [St.moved, e]; exact i2 s⟩
theorem tokOf_res {d t : Nat} {rs : List RS} (h1 : RSs.tok d rs ≤ t) (h2 : t < RSs.tok d rs + rs.length) (h3 : rs.length < 400) : tokOf d t = true := by
  have one : t = d → tokOf d t = true := fun e => by subst e; simp [tokOf]
  have more : t / 1000 = d + 1 → tokOf d t = true := fun e => by
    unfold tokOf
    cases Nat.beq t d with
    | true => rfl
    | false => simp [e]
  match rs, h1, h2, h3 with
  | [], h1, h2, h3 => simp at h2; omega
  | [_], h1, h2, h3 => simp only [RSs.tok, List.length_singleton] at h1 h2; exact one (by omega)
  | _ :: _ :: _, h1, h2, h3 => simp only [RSs.tok] at h1 h2; exact more (by omega)

/-- The call itself. -/
theorem Rel.call (h : Rel P Z X st a w) {C : Tab} (hC : SoundTab P C) {f : FuncId} {con : Con} (hcon : SoundCon P f con) {args : List PV} {us : List Value} (hargs : All2 (RelP P X st.b w) args us)
    {z : ASs.I con.as} (hz : decArgs C st con.as args = some z) (hap : apartB (args.flatMap PV.ptrs ++ keptToks st con.as args) (mvToks con.as args) = true) {y : RSs.I con.rs} (hy : con.f z = some y) {dst : Option Nat}
    (hd : ∀ n, dst = some n → Z.ok n) (hlen : con.rs.length < 400) {R : Ending → World → Prop}
    (hR : ∀ v X' w', Rel P Z X' (((cond (con.rs.any RS.hasSl) (st.share (keptToks st con.as args)) st).moved con.as args).results dst con.rs y) (a.put dst v) w' →
      (con.as.any AS.isMv = false → Step X X' st (((cond (con.rs.any RS.hasSl) (st.share (keptToks st con.as args)) st).moved con.as args).results dst con.rs y) w w' dst) → R (.returned v) w') :
    Enters P f ∧ Calls P f us.toArray w R := by
  obtain ⟨F1, f1, f2, f3, f4⟩ := Rel.share (keptToks st con.as args) h
  obtain ⟨hs, hnd, hq⟩ := Shown.of_call h hz hap f1 f3
  obtain ⟨n1, n2⟩ := apartB_ok hap
  have hF1 : ∀ tok B b cap, tok ∈ mvToks con.as args → look st.b tok = some B → X.β tok = some (b, cap) → F1 b = X.F b := by
    intro tok B b cap ht hB hb
    refine f2 b fun t' B' cap' ht' hB' hb' => ?_
    have hne : t' ≠ tok := fun e => n2 tok ht (by subst e; simp [ht'])
    exact h.bb t' tok B' B b cap' b cap hB' hB hb' hb hne rfl
  have hx0 : ∀ tok B b cap, look st.b tok = some B → B.x = true → X.β tok = some (b, cap) → X.F b = 0 := by
    intro tok B b cap hB hx hb
    have := h.b tok B hB
    simp only [BufOk, hb, hx, if_true] at this
    exact Nat.le_zero.1 this.2.1
  have hok : ArgsOk P (fun b => b < w.heap.size ∧ b ∉ blk (mvQs X.β con.as args)) F1 w con.as z us (mvQs X.β con.as args) := by
    refine decArgs_ok hC (fun b hb => hb.1) X.β hz (fun t ht B v hB hv => ?_) (fun _ h => h) hargs (fun pv u hp hr ht => h.vp hs hr ht fun t htp B b cap hB hb => ⟨h.buf_lt hB hb, fun hm => ?_⟩) rfl
    · have hbok := h.b t B hB
      obtain ⟨B', hB', hx⟩ := decArgs_mv hz t ht
      have e : B' = B := Option.some.inj (hB'.symm.trans hB)
      subst e
      unfold SlAt at hv
      cases hb : X.β t with
      | none => rw [hb] at hv; exact hv
      | some q =>
        obtain ⟨b, cap⟩ := q
        rw [hb] at hv
        simp only [BufOk, hb] at hbok
        obtain ⟨_, _, h3, cs, el, h4, h5, h6⟩ := hbok
        refine ⟨hv, (hF1 t B' b cap ht hB hb).trans (hx0 t B' b cap hB hx hb), h3, cs, el, h4, h5, fun i hi => ?_⟩
        exact RepV.mono hs.O hs.F (Keeps.refl _ _ _) _ _ _ _ (fun _ _ => rfl) (h6 i hi)
    · obtain ⟨tok, B', cap', h1, h2, hB', _⟩ := hq b hm
      have hne : t ≠ tok := fun e => n2 tok h1 (by
        subst e
        rw [List.mem_append, List.mem_flatMap]
        exact .inl ⟨pv, hp, htp⟩)
      exact h.bb t tok B B' b cap b cap' hB hB' hb h2 hne rfl
  obtain ⟨hent, hcall⟩ := hcon
  refine ⟨hent, Calls.mono (hcall z y hy F1 w us _ f4.fnew hnd hok) fun e w' hpost => ?_⟩
  obtain ⟨vs, F2, ps, rfl, hev, hres, hpn, hpb⟩ := hpost
  -- the state that is shown
  have key : ∀ (Xc : Cx) (stc : St) (F3 : Nat → Nat), Rel P Z Xc stc a w → Xc.O = X.O → Xc.ρ = X.ρ → Xc.β = X.β → (∀ b, b ∈ blk (mvQs X.β con.as args) → Xc.F b = 0) →
      (∀ r c, stc.row r = some c → ∃ c', st.row r = some c') → (∀ t B, look stc.b t = some B → ∃ x, look st.b t = some { B with x := x }) →
      (∀ t B, look st.b t = some B → ∃ x, look stc.b t = some { B with x := x }) → (∀ b, X.F b ≤ Xc.F b) →
      (∀ b, b < w.heap.size → Xc.F b = X.F b ∨ ∃ t B cap, look st.b t = some B ∧ X.β t = some (b, cap)) →
      Evo (blk (mvQs X.β con.as args)) Xc.F F3 w w' → RessOk P F3 w' con.rs y vs ps →
      ∃ X', Rel P Z X' ((stc.moved con.as args).results dst con.rs y) (a.put dst (packV vs)) w' ∧ (con.as.any AS.isMv = false → Step X X' st ((stc.moved con.as args).results dst con.rs y) w w' dst) := by
    intro Xc stc F3 hc eO eρ eβ hF0 hrow hbuf hbuf' hFge hFo hev3 hres3
    obtain ⟨k1, k2, k3⟩ := Rel.moved con.as args hc
    have hout : ∀ b, (w.heap.size ≤ b ∨ b ∈ blk (mvQs X.β con.as args)) → Out Z Xc (stc.moved con.as args) b := by
      intro b hb
      refine ⟨fun hO => ?_, fun r c hr e => ?_, fun t B cap hB hβ => ?_⟩
      · rcases hb with hb | hb
        · have := hc.oldO b hO; omega
        · rw [eO] at hO; exact (hs.O b hO).2 hb
      · obtain ⟨c1, hr1⟩ := k3 r c hr
        obtain ⟨c2, hr2⟩ := hrow r c1 hr1
        rcases hb with hb | hb
        · have := hc.row_lt hr1; omega
        · rw [eρ] at e
          exact (hs.rows r c2 hr2).2 (e ▸ hb)
      · obtain ⟨m1, m2⟩ := k2 t B hB
        obtain ⟨x, m3⟩ := hbuf t B m2
        rcases hb with hb | hb
        · have := hc.buf_lt m2 hβ; omega
        · obtain ⟨tok, B', cap', q1, q2, q3, _⟩ := hq b hb
          rw [eβ] at hβ
          have hne : t ≠ tok := fun e => m1 (e ▸ q1)
          exact h.bb t tok _ B' b cap b cap' m3 q3 hβ q2 hne rfl
    have g := k1.growM hev3 fun b hb => ⟨hF0 b hb, hout b (.inr hb)⟩
    obtain ⟨X', r1, r2, r3, r4, r5⟩ := g.results hd hres3 hpn fun b hb => by
      have := hout b (hpb b hb)
      exact ⟨this.O, this.row, this.buf⟩
    refine ⟨X', r1, fun hnm => ?_⟩
    have hms := noMv_moved hnm args
    have hbl : blk (mvQs X.β con.as args) = [] := by
      cases hbb : blk (mvQs X.β con.as args) with
      | nil => rfl
      | cons b l =>
        obtain ⟨tok, B, cap, h1, _⟩ := hq b (by rw [hbb]; simp)
        rw [hms.1] at h1; cases h1
    rw [hms.2] at r5 r4 r1 ⊢
    rw [hbl] at hev3 hpb
    have hps : ∀ b, b ∈ blk ps → w.heap.size ≤ b := fun b hb => (hpb b hb).resolve_right (by simp)
    refine ⟨hev3.ext, fun b hb => ?_, fun b => ?_, fun r _ => ?_, fun r => .inl ?_, fun t ht => ?_, fun hf d t B b cap e ht hB hβ => ?_⟩
    · rw [r2]
      rcases hFo b hb with e | e
      · exact .inl ((hev3.fold b hb (by simp)).trans e)
      · exact .inr e
    · rw [r2]; exact Nat.le_trans (hFge b) (hev3.fge b)
    · rw [r3]; exact congrFun eρ r
    · rw [r3]; exact congrFun eρ r
    · have hin : ∀ d, dst = some d → t < RSs.tok d con.rs ∨ RSs.tok d con.rs + con.rs.length ≤ t := by
        intro d e
        rcases Nat.lt_or_ge t (RSs.tok d con.rs) with h1 | h1
        · exact .inl h1
        · rcases Nat.lt_or_ge t (RSs.tok d con.rs + con.rs.length) with h2 | h2
          · have := ht d e
            rw [tokOf_res h1 h2 hlen] at this; cases this
          · exact .inr h2
      obtain ⟨m1, m2⟩ := r4 t hin
      refine ⟨m1.trans (congrFun eβ t), fun B hB => ?_⟩
      rw [m2]; exact hbuf' t B hB
    · refine hps b (r5 t B b cap ?_ hB hβ)
      cases e2 : look stc.b t with
      | none => rfl
      | some B1 =>
        obtain ⟨x, e3⟩ := hbuf t B1 e2
        rw [hf d t e ht] at e3; cases e3
  cases hsl : con.rs.any RS.hasSl with
  | true =>
    rw [hsl] at hR
    simp only [cond_true] at hR
    have q1 : ∀ b, b ∈ blk (mvQs X.β con.as args) → F1 b = 0 := fun b hb => by
      obtain ⟨tok, B, cap, h1, h2, hB, hx⟩ := hq b hb
      exact (hF1 tok B b cap h1 hB h2).trans (hx0 tok B b cap hB hx h2)
    have q2 : ∀ b, b < w.heap.size → F1 b = X.F b ∨ ∃ t B cap, look st.b t = some B ∧ X.β t = some (b, cap) := fun b hb => by
      rcases Classical.em (∃ t B cap, look st.b t = some B ∧ X.β t = some (b, cap)) with e | e
      · exact .inr e
      · exact .inl (f2 b fun t B cap _ hB hb => e ⟨t, B, cap, hB, hb⟩)
    obtain ⟨X', g1, g2⟩ := key { X with F := F1 } (st.share (keptToks st con.as args)) F2 f4 rfl rfl rfl q1 (fun r c hr => ⟨c, by rw [share_row] at hr; exact hr⟩) (fun t B hB => share_some hB) (fun t B hB => let ⟨x, e, _⟩ := share_look _ _ t B hB; ⟨x, e⟩) f1 q2 hev hres
    exact hR _ X' w' g1 g2
  | false =>
    rw [hsl] at hR
    simp only [cond_false] at hR
    have hq0 : ∀ b, b ∈ blk (mvQs X.β con.as args) → X.F b = 0 := fun b hb => by
      obtain ⟨tok, B, cap, h1, h2, hB, hx⟩ := hq b hb
      exact hx0 tok B b cap hB hx h2
    let F3 : Nat → Nat := fun b => if b < w.heap.size ∧ b ∉ blk (mvQs X.β con.as args) then X.F b else F2 b
    have e3 : Evo (blk (mvQs X.β con.as args)) X.F F3 w w' := by
      refine ⟨hev.os, hev.tape, hev.drawn, hev.output, hev.size, hev.block, fun b hb hm => if_pos ⟨hb, hm⟩, fun b => ?_, fun b hb => ?_⟩
      · show X.F b ≤ if b < w.heap.size ∧ b ∉ blk (mvQs X.β con.as args) then X.F b else F2 b
        split
        · exact Nat.le_refl _
        · rename_i hn
          rcases Nat.lt_or_ge b w.heap.size with h1 | h1
          · have hm : b ∈ blk (mvQs X.β con.as args) := Classical.byContradiction fun hm => hn ⟨h1, hm⟩
            rw [hq0 b hm]; exact Nat.zero_le _
          · rw [h.fnew b h1]; exact Nat.zero_le _
      · have h1 : ¬ b < w.heap.size := by have := hev.size; omega
        show (if b < w.heap.size ∧ b ∉ blk (mvQs X.β con.as args) then X.F b else F2 b) = 0
        rw [if_neg (fun hx => h1 hx.1)]
        exact hev.fnew b hb
    obtain ⟨X', g1, g2⟩ := key X st F3 h rfl rfl rfl hq0 (fun r c hr => ⟨c, hr⟩) (fun t B hB => ⟨B.x, hB⟩) (fun t B hB => ⟨B.x, hB⟩) (fun _ => Nat.le_refl _) (fun _ _ => .inl rfl) e3
      (RessOk.noSl hsl (fun b hb => if_neg fun hx => by rcases hpb b hb with h1 | h1
                                                        · omega
                                                        · exact hx.2 h1) hres)
    exact hR _ X' w' g1 g2
end Go.PgAM

/-
  What the machine knows of types, against the program's table; a load, a store, by cells.
-/
namespace Go.PgAM
open Go Go.RowKit
set_option linter.unusedVariables false

def zeroS : Sc → Value
  | .int k => .int k 0
  | .bool => .bool false
  | .str => .string ByteArray.empty
  | .sl _ => .slice none 0 0
  | .fn _ _ => .nilFunc
def zeroCs : Scs → List Value
  | .nil => []
  | .cons s r => zeroS s :: zeroCs r
def zeroV : VT → Value
  | .sc s => zeroS s
  | .ag cs => .agg (zeroCs cs).toArray
def isZS : Sc → Value → Bool
  | .int k, .int k' n => decide (k = k') && n == 0
  | .bool, .bool b => !b
  | .str, .string s => Nat.beq s.size 0
  | .sl _, .slice none 0 0 => true
  | .fn _ _, .nilFunc => true
  | _, _ => false
def isZCs : Scs → List Value → Bool
  | .nil, [] => true
  | .cons s r, v :: l => isZS s v && isZCs r l
  | _, _ => false
def isZV : VT → Value → Bool
  | .sc s, v => isZS s v
  | .ag cs, .agg l => isZCs cs l.toList
  | _, _ => false
theorem isZS_ok : ∀ {s : Sc} {v : Value}, isZS s v = true → v = zeroS s := by
  intro s v h
  unfold isZS at h
  split at h
  · simp at h; obtain ⟨h1, h2⟩ := h; subst h1; subst h2; rfl
  · simp at h; subst h; rfl
  · rename_i s'
    have h := Nat.eq_of_beq_eq_true h
    have : s' = ByteArray.empty := by
      obtain ⟨d⟩ := s'
      have : d = #[] := Array.eq_empty_of_size_eq_zero h
      subst this; rfl
    subst this; rfl
  · rfl
  · rfl
  · cases h
theorem isZCs_ok : ∀ {cs : Scs} {l : List Value}, isZCs cs l = true → l = zeroCs cs
  | .nil, [], _ => rfl
  | .nil, _ :: _, h => by cases h
  | .cons _ _, [], h => by cases h
  | .cons s r, v :: l, h => by
    simp only [isZCs, Bool.and_eq_true] at h
    rw [isZS_ok h.1, isZCs_ok h.2]; rfl
theorem isZV_ok {t : VT} {v : Value} (h : isZV t v = true) : v = zeroV t := by
  cases t with
  | sc s => exact isZS_ok h
  | ag cs =>
    cases v with
    | agg l =>
      have := isZCs_ok (show isZCs cs l.toList = true from h)
      simp only [zeroV]; rw [← this]
    | _ => cases h

def aggD : TypeDesc → Bool
  | .struct _ | .array _ _ => true
  | _ => false
/-- A type's cells, and whether they are more than a cell. -/
def sizeB (P : Program) (T : TypeId) (n : Nat) (ag : Bool) : Bool := match P.info? T, P.underlying T with
  | some i, some d => Nat.beq i.size n && (aggD d == ag)
  | _, _ => false
def zeroB (P : Program) (T : TypeId) (t : VT) : Bool := match P.info? T with
  | some i => match i.zero with
    | some z => isZV t z
    | none => false
  | none => false
def fldsB (P : Program) : List Field → List (Nat × Nat × Bool) → Bool
  | [], [] => true
  | f :: fs, (off, n, ag) :: l => Nat.beq f.offset off && sizeB P f.type n ag && fldsB P fs l
  | _, _ => false
def tyB (P : Program) (T : TypeId) (ti : TI) : Bool :=
  sizeB P T ti.vt.size ti.vt.isAg && zeroB P T ti.vt && (match P.underlying T with
    | some d => match ti.vt, d with
      | .sc (.int k), .int k' => decide (k = k') && ti.flds.isEmpty && Nat.beq ti.arr.1 0
      | .sc .bool, .bool => ti.flds.isEmpty && Nat.beq ti.arr.1 0
      | .sc .str, .string => ti.flds.isEmpty && Nat.beq ti.arr.1 0
      | .sc (.sl e), .slice T' => sizeB P T' e.size e.isAg && zeroB P T' e && ti.flds.isEmpty && Nat.beq ti.arr.1 0 && (match P.info? T' with
        | some i => Nat.beq i.bytes ti.eb
        | none => false)
      | .sc (.fn _ _), .func _ _ _ => ti.flds.isEmpty && Nat.beq ti.arr.1 0
      | .ag _, .struct fs => fldsB P fs.toList ti.flds && Nat.beq ti.arr.1 0
      | .ag _, .array n T' => ti.flds.isEmpty && Nat.beq ti.arr.1 n && sizeB P T' ti.arr.2.1 ti.arr.2.2
      | _, _ => false
    | none => false)
def tysB (P : Program) : List (TypeId × TI) → Bool
  | [] => true
  | (T, ti) :: l => tyB P T ti && tysB P l
theorem tysB_ok {P : Program} : ∀ {l : List (TypeId × TI)}, tysB P l = true → ∀ T ti, look l T = some ti → tyB P T ti = true
  | [], _, T, ti, h => by cases h
  | (T', ti') :: l, hb, T, ti, h => by
    simp only [tysB, Bool.and_eq_true] at hb
    rw [look_cons] at h
    split at h
    · rename_i e; subst e; cases h; exact hb.1
    · exact tysB_ok hb.2 T ti h

section
variable {P : Program} {Z : At0} {X : Cx} {st : St} {a : Act} {w w' : World} {T : TypeId} {ti : TI} {n : Nat} {ag : Bool}

theorem sizeB_ok (h : sizeB P T n ag = true) : ∃ i d, P.info? T = some i ∧ P.underlying T = some d ∧ i.size = n ∧ aggD d = ag := by
  unfold sizeB at h
  split at h
  · rename_i i d hi hd
    simp only [Bool.and_eq_true, beq_iff_eq] at h
    exact ⟨i, d, hi, hd, Nat.eq_of_beq_eq_true h.1, h.2⟩
  · cases h
theorem zeroB_ok {t : VT} (h : zeroB P T t = true) : ∃ i, P.info? T = some i ∧ i.zero = some (zeroV t) := by
  unfold zeroB at h
  split at h
  · rename_i i hi
    split at h
    · rename_i z hz
      exact ⟨i, hi, by rw [hz, isZV_ok h]⟩
    · cases h
  · cases h
theorem run_typeInfo {i : TypeInfo} (h : P.info? T = some i) (w : World) : (typeInfo T).run P w = .ok i w := by
  simp [typeInfo, h]
theorem run_sizeOf (h : sizeB P T n ag = true) (w : World) : (sizeOf T).run P w = .ok n w := by
  obtain ⟨i, d, hi, _, rfl, _⟩ := sizeB_ok h
  simp [sizeOf, typeInfo, hi]
theorem run_isAgg (h : sizeB P T n ag = true) (w : World) : (isAgg T).run P w = .ok ag w := by
  obtain ⟨i, d, _, hd, _, rfl⟩ := sizeB_ok h
  unfold isAgg
  rw [Sem.run_bind, run_underlying hd w]
  cases d <;> rfl
theorem run_zeroValue {t : VT} (h : zeroB P T t = true) (w : World) : (zeroValue T).run P w = .ok (zeroV t) w := by
  obtain ⟨i, hi, hz⟩ := zeroB_ok h
  simp [zeroValue, typeInfo, hi, hz]
theorem tyB_size (h : tyB P T ti = true) : sizeB P T ti.vt.size ti.vt.isAg = true := by
  simp only [tyB, Bool.and_eq_true] at h; exact h.1.1
theorem tyB_zero (h : tyB P T ti = true) : zeroB P T ti.vt = true := by
  simp only [tyB, Bool.and_eq_true] at h; exact h.1.2

theorem add_at (b off j : Nat) : (⟨b, off, none⟩ : Addr).add j = ⟨b, off + j, none⟩ := by unfold Addr.add; split <;> simp_all

/-- Cells that lie one behind another. -/
def Lie (w : World) (b off : Nat) (us : List Value) : Prop := ∀ j u, us[j]? = some u → w.cell? ⟨b, off + j, none⟩ = some u
theorem Lie.load {us : List Value} {b off : Nat} (h : Lie w b off us) : (Go.loadCells ⟨b, off, none⟩ us.length).run P w = .ok us.toArray w :=
  run_loadCells_list (P := P) w _ us fun j v hj => by rw [add_at]; exact h j v hj
theorem Lie.take {us : List Value} {b off n : Nat} (h : Lie w b off us) : Lie w b off (us.take n) := fun j u hj => h j u (by
  rw [List.getElem?_take] at hj
  split at hj
  · exact hj
  · cases hj)
theorem CellsAt.lie {bs : List (Nat × Buf)} : ∀ {cs : List DC} {b off : Nat}, CellsAt P X.O X.F w cs b off → ∃ us, All2 (RelK P X bs w) (cs.map .d) us ∧ Lie w b off us
  | [], b, off, _ => ⟨[], trivial, fun j u h => by simp at h⟩
  | c :: cs, b, off, h => by
    obtain ⟨u, hu, hr⟩ := h 0 c rfl
    obtain ⟨us, h1, h2⟩ := CellsAt.lie (bs := bs) (cs := cs) (b := b) (off := off + 1) fun j c' hj => by
      have := h (j + 1) c' (by simpa using hj)
      rwa [show off + (j + 1) = off + 1 + j by omega] at this
    have hr : RelC P X bs w (.d c) u := hr
    refine ⟨u :: us, ⟨⟨hr, hr.one (by simp) (by simp)⟩, h1⟩, fun j u' hj => ?_⟩
    cases j with
    | zero => simp at hj; subst hj; exact hu
    | succ j =>
      have := h2 j u' (by simpa using hj)
      rwa [show off + 1 + j = off + (j + 1) by omega] at this
/-- A load. -/
theorem run_loadVar {bs : List (Nat × Buf)} (ht : sizeB P T n ag = true) {cs : List PC} {us : List Value} {b off : Nat} (hc : All2 (RelK P X bs w) cs us) (hl : Lie w b off us) {pv : PV} (h : loadCells ag n cs = some pv) :
    ∃ v, (loadVar T ⟨b, off, none⟩).run P w = .ok v w ∧ RelP P X bs w pv v := by
  have h1 := run_isAgg ht w
  have h2 := run_sizeOf ht w
  cases ag with
  | true =>
    have h : cond (Nat.ble n cs.length) (some (PV.agg (cs.take n))) none = some pv := h
    cases e : Nat.ble n cs.length with
    | false => rw [e] at h; cases h
    | true =>
      rw [e] at h
      have h := Option.some.inj h
      subst h
      have hle := Nat.le_of_ble_eq_true e
      have hlen := All2.length hc
      have h3 : (Go.loadCells ⟨b, off, none⟩ n).run P w = .ok (us.take n).toArray w := by
        have := Lie.load (P := P) (hl.take (n := n))
        rwa [List.length_take, Nat.min_eq_left (by omega)] at this
      refine ⟨.agg (us.take n).toArray, by simp [loadVar, h1, h2, h3], (us.take n).toArray, rfl, by simpa using All2.take n hc⟩
  | false =>
    cases cs with
    | nil => cases h
    | cons c cs =>
      cases us with
      | nil => exact hc.elim
      | cons u us =>
        have h := Option.some.inj (show some (PV.s c) = some pv from h)
        subst h
        have := hl 0 u rfl
        simp only [Nat.add_zero] at this
        exact ⟨u, by simp [loadVar, h1, run_load, this], hc.1.1⟩
/-- A part of a value. -/
theorem run_part {bs : List (Nat × Buf)} (ht : sizeB P T n ag = true) {ps : List PC} {cells : Array Value} {off : Nat} (hc : All2 (RelK P X bs w) ps cells.toList) {pv : PV} (h : loadCells ag n (ps.drop off) = some pv) :
    ∃ v, (part T cells off).run P w = .ok v w ∧ RelP P X bs w pv v := by
  have h1 := run_isAgg ht w
  have h2 := run_sizeOf ht w
  have hd := All2.drop off hc
  cases ag with
  | true =>
    have h : cond (Nat.ble n (ps.drop off).length) (some (PV.agg ((ps.drop off).take n))) none = some pv := h
    cases e : Nat.ble n (ps.drop off).length with
    | false => rw [e] at h; cases h
    | true =>
      rw [e] at h
      have h := Option.some.inj h
      subst h
      refine ⟨.agg (cells.extract off (off + n)), by simp [part, h1, h2], _, rfl, ?_⟩
      have : (cells.extract off (off + n)).toList = (cells.toList.drop off).take n := by
        simp [Array.toList_extract]
      rw [this]
      exact All2.take n hd
  | false =>
    cases e : ps.drop off with
    | nil => rw [e] at h; cases h
    | cons c cs =>
      rw [e] at h hd
      have h := Option.some.inj (show some (PV.s c) = some pv from h)
      subst h
      cases e2 : cells.toList.drop off with
      | nil => rw [e2] at hd; exact hd.elim
      | cons u us =>
        rw [e2] at hd
        have h3 : cells[off]? = some u := by
          have : (cells.toList.drop off)[0]? = some u := by rw [e2]; rfl
          simpa using this
        exact ⟨u, by simp [part, h1, h3], hd.1.1⟩
end
end Go.PgAM

/-
  A step's continuation comes last.
-/
namespace Go.PgAM
open Go Go.RowKit
set_option linter.unusedVariables false

theorem grd_bind {R S : Type} (c : Bool) (x : Option S) (k : S → Option R) : grd c (x.bind k) = (grd c x).bind k := by cases c <;> rfl
theorem cond_bind {R S : Type} (c : Bool) (x y : Option S) (k : S → Option R) : cond c (x.bind k) (y.bind k) = (cond c x y).bind k := by cases c <;> rfl
theorem splitIdx_bind {R S : Type} (i : Int) (k : S → Option R) (f : Nat → Option S) : ∀ (n j : Nat), splitIdx i n j (fun m => (f m).bind k) = (splitIdx i n j f).bind k
  | 0, j => rfl
  | n + 1, j => by simp only [splitIdx]; rw [splitIdx_bind i k f n (j + 1), cond_bind]
theorem binInt_bind {R : Type} (op : BinOp) (kd kd' : IntKind) (x y : Int) (k : PV → Option R) : binInt op kd kd' x y k = (binInt op kd kd' x y some).bind k := by
  cases op <;> simp only [binInt, ← grd_bind, ← cond_bind, Option.bind_some, Option.bind_none] <;> rfl
theorem binStr_bind {R : Type} (op : BinOp) (x y : ByteArray) (k : PV → Option R) : binStr op x y k = (binStr op x y some).bind k := by
  cases op <;> simp only [binStr, ← grd_bind, Option.bind_some, Option.bind_none]
theorem binBool_bind {R : Type} (op : BinOp) (x y : Bool) (k : PV → Option R) : binBool op x y k = (binBool op x y some).bind k := by
  cases op <;> rfl
theorem binStep_bind {R : Type} (E : Env) (op : BinOp) (T : TypeId) (a b : PV) (k : PV → Option R) : binStep E op T a b k = (binStep E op T a b some).bind k := by
  unfold binStep
  split
  · exact binInt_bind ..
  · exact binStr_bind ..
  · split
    · split
      · exact binBool_bind ..
      · rfl
    · rfl
  · cases memb E.eqs T with
    | false => rfl
    | true =>
      simp only [cond_true]
      repeat' (first | rfl | split)
  · rfl
theorem callCon_bind {R : Type} (E : Env) (con : Con) (args : List PV) (dst : Option Nat) (st : St) (k : St → Option R) : callCon E con args dst st k = (callCon E con args dst st some).bind k := by
  unfold callCon
  split
  · rfl
  · simp only [← cond_bind, Option.bind_none]
    congr 1
    cases con.f _ <;> rfl
theorem appendStep_bind {R : Type} (E : Env) (T : TypeId) (d : Nat) (a b : PV) (st : St) (k : St → Option R) : appendStep E T d a b st k = (appendStep E T d a b st some).bind k := by
  unfold appendStep
  repeat' (first | rfl | (simp only [← cond_bind, ← grd_bind, Option.bind_none, Option.bind_some]; done) | split)
theorem builtinStep_bind {R : Type} (E : Env) (b : Builtin) (args : List PV) (ts : List TypeId) (dst : Option Nat) (st : St) (k : St → Option R) : builtinStep E b args ts dst st k = (builtinStep E b args ts dst st some).bind k := by
  unfold builtinStep
  repeat' (first | rfl | exact appendStep_bind _ _ _ _ _ _ _ | split)
theorem storeElem_bind {R : Type} (E : Env) (tok : Nat) (i : Int) (size : Nat) (v : PV) (st : St) (k : St → Option R) : storeElem E tok i size v st k = (storeElem E tok i size v st some).bind k := by
  unfold storeElem
  split
  · split
    · simp only [← cond_bind, Option.bind_none, Option.bind_some]
    · rfl
  · rfl
theorem ret_bind {R : Type} (v : Option PV) (dst : Option Nat) (st : St) (k : St → Option R) : (match v with | some v => k (st.setT dst v) | none => none) = ((match v with | some v => some (st.setT dst v) | none => none) : Option St).bind k := by
  cases v <;> rfl
theorem binStep_bind' {R : Type} (E : Env) (op : BinOp) (T : TypeId) (a b : PV) (f : PV → St) (k : St → Option R) : (binStep E op T a b fun v => k (f v)) = (binStep E op T a b fun v => some (f v)).bind k := by
  rw [binStep_bind E op T a b (fun v => k (f v)), binStep_bind E op T a b (fun v => some (f v))]
  cases binStep E op T a b some <;> rfl
theorem bind_k {α R : Type} (x : Option α) (f : α → St) (k : St → Option R) : (x.bind fun y => k (f y)) = (x.bind fun y => some (f y)).bind k := by
  cases x <;> rfl
theorem splitIdx_bind' {R : Type} (i : Int) (k : St → Option R) (g : Nat → Option R) (f : Nat → Option St) (h : ∀ m, g m = (f m).bind k) (n j : Nat) : splitIdx i n j g = (splitIdx i n j f).bind k := by
  have : g = fun m => (f m).bind k := funext h
  rw [this]; exact splitIdx_bind i k f n j
theorem step1_bind {R : Type} (E : Env) (o : Oper) (st : St) (k : St → Option R) : step1 E o st k = (step1 E o st some).bind k := by
  unfold step1
  cases o.op <;> simp only []
  all_goals first
    | rfl
    | (repeat' (first
        | rfl
        | exact ret_bind _ _ _ _
        | exact callCon_bind _ _ _ _ _ _
        | exact builtinStep_bind _ _ _ _ _ _ _
        | exact storeElem_bind _ _ _ _ _ _ _
        | exact binStep_bind' _ _ _ _ _ _ _
        | exact bind_k _ _ _
        | (refine splitIdx_bind' _ _ _ _ (fun m => ?_) _ _)
        | (simp only [← cond_bind, ← grd_bind, Option.bind_none, Option.bind_some]; done)
        | split))
end Go.PgAM

/-
  Operations, one by one: those that only make a value.
-/
namespace Go.PgAM
open Go Go.RowKit
set_option linter.unusedVariables false
set_option linter.unusedSimpArgs false

def NoMv (C : Tab) : Prop := ∀ f con, C f = some con → con.as.any AS.isMv = false
def Quiet (E : Env) : Prop := NoMv E.C ∧ E.q = true
def EqOk (P : Program) (T : TypeId) (cs : Scs) : Prop := ∀ (op : BinOp) (x y : Operand) (ps qs : List PC) (u v : Array Value) (c : Bool) (X : Cx) (bs : List (Nat × Buf)) (w : World),
  (op = .eql ∨ op = .neq) → All2 (RelK P X bs w) ps u.toList → All2 (RelK P X bs w) qs v.toList → flatEq cs ps qs = some c →
    (eqGuard op T x y (.agg u) (.agg v)).run P w = .ok () w ∧ (Op.equal T (.agg u) (.agg v)).run P w = .ok c w
/-- What the machine is told is so. -/
structure EnvOk (P : Program) (E : Env) (Z : At0) : Prop where
  ty : tysB P E.ty = true
  C : SoundTab P E.C
  nt : E.nt = Z.nt
  lo : E.lo = Z.lo
  eqs : ∀ T ti cs, memb E.eqs T = true → E.tyOf T = some ti → ti.vt = .ag cs → EqOk P T cs
theorem Tab.still_ok {P : Program} {C : Tab} (h : SoundTab P C) : SoundTab P C.still ∧ NoMv C.still := by
  have key : ∀ f con, C.still f = some con → C f = some con ∧ con.as.any AS.isMv = false := by
    intro f con hf
    unfold Tab.still at hf
    split at hf
    · rename_i c e
      cases hm : c.as.any AS.isMv with
      | true => rw [hm] at hf; cases hf
      | false => rw [hm] at hf; cases hf; exact ⟨e, hm⟩
    · cases hf
  exact ⟨fun f con hf => h f con (key f con hf).1, fun f con hf => (key f con hf).2⟩
theorem EnvOk.still {P : Program} {E : Env} {Z : At0} (h : EnvOk P E Z) : EnvOk P E.still Z := ⟨h.ty, (Tab.still_ok h.C).1, h.nt, h.lo, h.eqs⟩

section
variable {P : Program} {E : Env} {Z : At0} {X : Cx} {st st' : St} {a : Act} {w w' : World} {o : Oper} {next : Act → World → Prop} {Q : Exit → Act → World → Prop}

/-- What comes behind an operation may rely on. -/
def Goes (P : Program) (E : Env) (Z : At0) (X : Cx) (st st' : St) (a : Act) (w : World) (o : Oper) (next : Act → World → Prop) : Prop :=
  ∀ v X' w', Rel P Z X' st' (a.put o.dst v) w' → (isQ o = true → Quiet E → Step X X' st st' w w' o.dst) → next (a.put o.dst v) w'

theorem dst_lt (hE : EnvOk P E Z) (hd : dstOk E o = true) : ∀ n, o.dst = some n → Z.ok n := by
  intro n e
  unfold dstOk at hd
  rw [e] at hd
  simp only [Bool.and_eq_true] at hd
  exact ⟨by rw [← hE.nt]; exact Nat.le_of_ble_eq_true hd.1, by rw [← hE.lo]; exact Nat.le_of_ble_eq_true hd.2⟩
theorem Goes.pure (hn : Goes P E Z X st st' a w o next) (h : Rel P Z X st a w) (hd : ∀ n, o.dst = some n → Z.ok n) {pv : PV} {v : Value} (hv : RelP P X st.b w pv v) (hst : st.setT o.dst pv = st') : next (a.put o.dst v) w := by
  subst hst
  exact hn v X w (h.put' hd hv) fun _ _ => Step.same pv
theorem wp_value {v : Value} (h : (execOp a.eval o).run P w = .ok (.value v) w') (hn : next (a.put o.dst v) w') : o.wp P a w next Q := by
  unfold Oper.wp; rw [h]; exact hn
theorem wp_skip' (h : (execOp a.eval o).run P w = .ok .skip w') (hn : next (a.put o.dst Go.undef) w') : o.wp P a w next Q := by
  unfold Oper.wp; rw [h]; exact hn

theorem opv_ok (h : Rel P Z X st a w) {x : Operand} {pv : PV} (hx : opv st x = some pv) : RelP P X st.b w pv (a.eval x) := by
  cases x with
  | tmp t =>
    have e : st.tmp t = pv := Option.some.inj hx
    subst e
    unfold St.tmp
    cases hl : look st.t t with
    | none => trivial
    | some pv => exact h.t t pv hl
  | const v =>
    unfold opv at hx
    cases v with
    | int k n => cases hx; simp [RelP, RelC, RepS, Act.eval]
    | bool b => cases hx; simp [RelP, RelC, RepS, Act.eval]
    | string s => cases hx; simp [RelP, RelC, RepS, Act.eval]
    | _ => cases hx
  | func f => cases hx; exact ⟨#[], rfl, trivial⟩
  | global g => cases hx
theorem opc_ok (h : Rel P Z X st a w) {x : Operand} {p : PC} (hx : opc st x = some p) : RelC P X st.b w p (a.eval x) := by
  unfold opc at hx
  split at hx
  · rename_i p' e
    cases hx
    exact opv_ok h e
  · cases hx
theorem some_ret {v : Option PV} {dst : Option Nat} (h : (match v with | some v => some (st.setT dst v) | none => none) = some st') : ∃ pv, v = some pv ∧ st.setT dst pv = st' := by
  cases v with
  | none => cases h
  | some pv => cases h; exact ⟨pv, rfl, rfl⟩

theorem wp_move (hE : EnvOk P E Z) (h : Rel P Z X st a w) (hd : dstOk E o = true) {x : Operand} (ho : o.op = .move x) (hs : step1 E o st some = some st') (hn : Goes P E Z X st st' a w o next) : o.wp P a w next Q := by
  have he : (execOp a.eval o).run P w = .ok (.value (a.eval x)) w := by unfold execOp; rw [ho]; rfl
  refine wp_value he ?_
  unfold step1 at hs
  rw [ho] at hs
  simp only at hs
  split at hs
  · rename_i e1; cases e1
    split at hs
    · rename_i d ti e2 e3
      split at hs
      · rename_i e e4
        cases hs
        refine hn _ { X with β := upd X.β d none } w ?_ fun hq _ => ?_
        · rw [e2]
          exact (h.newNil d true e).put (dst_lt hE hd d e2) ⟨⟨true, e, []⟩, by rw [look_newBuf, if_pos rfl], by simp [SlAt, upd_same, Act.eval]⟩
        · exfalso; simp [isQ, ho] at hq
      · cases hs
    · cases hs
  · rename_i e1; cases e1
  · rename_i e1 e2; cases e2
    obtain ⟨pv, e3, e4⟩ := some_ret hs
    exact hn.pure h (dst_lt hE hd) (opv_ok h e3) e4
  all_goals first | (cases hs; done) | (rename_i e1; cases e1)
theorem wp_pick (hE : EnvOk P E Z) (h : Rel P Z X st a w) (hd : dstOk E o = true) {c x y : Operand} (ho : o.op = .pick c x y) (hs : step1 E o st some = some st') (hn : Goes P E Z X st st' a w o next) : o.wp P a w next Q := by
  unfold step1 at hs
  rw [ho] at hs
  simp only at hs
  split at hs
  · rename_i c' x' y' e1 e2 e3
    have h1 := opc_ok h e1
    have h2 := opc_ok h e2
    have h3 := opc_ok h e3
    simp only [RelC, RepS] at h1 h2 h3
    refine wp_value (v := if (show Bool from c') = true then .bool x' else .bool y') (w' := w) (by unfold execOp; rw [ho]; simp only [Go.asBool, h1, h2, h3]; cases c' <;> rfl) ?_
    refine hn.pure h (dst_lt hE hd) (pv := .s (.d ⟨.bool, cond c' x' y'⟩)) ?_ (Option.some.inj hs)
    simp only [RelP, RelC, RepS]
    cases c' <;> rfl
  · cases hs
theorem wp_nilCheck (hE : EnvOk P E Z) (h : Rel P Z X st a w) (hd : dstOk E o = true) {x : Operand} (ho : o.op = .nilCheck x) (hs : step1 E o st some = some st') (hn : Goes P E Z X st st' a w o next) : o.wp P a w next Q := by
  unfold step1 at hs
  rw [ho] at hs
  simp only at hs
  have key : ∀ p ad, opc st x = some p → a.eval x = .pointer (some ad) → st.setT o.dst (.s p) = st' → o.wp P a w next Q := by
    intro p ad e1 e2 e3
    refine wp_value (v := a.eval x) (w' := w) (by unfold execOp; rw [ho]; simp [e2]) ?_
    exact hn.pure h (dst_lt hE hd) (pv := .s p) (opc_ok h e1) e3
  split at hs
  · rename_i s n e1
    exact key _ _ e1 (opc_ok h e1) (Option.some.inj hs)
  · rename_i cs e1
    obtain ⟨b, off, h1, _⟩ := opc_ok h e1
    exact key _ _ e1 h1 (Option.some.inj hs)
  · rename_i t i n cs e1
    obtain ⟨B, b, cap, _, _, _, _, _, h1, _⟩ := opc_ok h e1
    exact key _ _ e1 h1 (Option.some.inj hs)
  · cases hs
theorem wp_unOp (hE : EnvOk P E Z) (h : Rel P Z X st a w) (hd : dstOk E o = true) {u : UnOp} {T : TypeId} {x : Operand} (ho : o.op = .unOp u T x) (hs : step1 E o st some = some st') (hn : Goes P E Z X st st' a w o next) : o.wp P a w next Q := by
  unfold step1 at hs
  rw [ho] at hs
  cases u <;> simp only at hs
  all_goals try (cases hs; done)
  all_goals (split at hs; rotate_left; cases hs)
  all_goals (rename_i e1; have h1 := opc_ok h e1; simp only [RelC, RepS] at h1)
  all_goals refine wp_value (w' := w) (by unfold execOp; rw [ho]; simp only [h1, Op.unary, Op.intArith, Op.intBits]; rfl) ?_
  all_goals exact hn.pure h (dst_lt hE hd) (by first | (simp only [RelP, RelC, RepS]; done) | (simp only [RelP, RelC, RepS]; rfl)) (Option.some.inj hs)
theorem EnvOk.tyOf (hE : EnvOk P E Z) {T : TypeId} {ti : TI} (h : E.tyOf T = some ti) : tyB P T ti = true := tysB_ok hE.ty T ti h
theorem tyB_und {T : TypeId} {ti : TI} (h : tyB P T ti = true) : ∃ d, P.underlying T = some d ∧ (match ti.vt, d with
      | .sc (.int k), .int k' => decide (k = k') && ti.flds.isEmpty && Nat.beq ti.arr.1 0
      | .sc .bool, .bool => ti.flds.isEmpty && Nat.beq ti.arr.1 0
      | .sc .str, .string => ti.flds.isEmpty && Nat.beq ti.arr.1 0
      | .sc (.sl e), .slice T' => sizeB P T' e.size e.isAg && zeroB P T' e && ti.flds.isEmpty && Nat.beq ti.arr.1 0 && (match P.info? T' with
        | some i => Nat.beq i.bytes ti.eb
        | none => false)
      | .sc (.fn _ _), .func _ _ _ => ti.flds.isEmpty && Nat.beq ti.arr.1 0
      | .ag _, .struct fs => fldsB P fs.toList ti.flds && Nat.beq ti.arr.1 0
      | .ag _, .array n T' => ti.flds.isEmpty && Nat.beq ti.arr.1 n && sizeB P T' ti.arr.2.1 ti.arr.2.2
      | _, _ => false) = true := by
  simp only [tyB, Bool.and_eq_true] at h
  obtain ⟨_, h⟩ := h
  split at h
  · rename_i d e
    exact ⟨d, e, h⟩
  · cases h
theorem tyB_int {T : TypeId} {ti : TI} {k : IntKind} (h : tyB P T ti = true) (hv : ti.vt = .sc (.int k)) : P.underlying T = some (.int k) := by
  obtain ⟨d, hd, h⟩ := tyB_und h
  rw [hv] at h
  cases d <;> simp at h
  rw [hd, h.1.1]
theorem tyB_bool {T : TypeId} {ti : TI} (h : tyB P T ti = true) (hv : ti.vt = .sc .bool) : P.underlying T = some .bool := by
  obtain ⟨d, hd, h⟩ := tyB_und h
  rw [hv] at h
  cases d <;> simp at h
  rw [hd]
theorem tyB_str {T : TypeId} {ti : TI} (h : tyB P T ti = true) (hv : ti.vt = .sc .str) : P.underlying T = some .string := by
  obtain ⟨d, hd, h⟩ := tyB_und h
  rw [hv] at h
  cases d <;> simp at h
  rw [hd]
theorem tyB_sl {T : TypeId} {ti : TI} {e : VT} (h : tyB P T ti = true) (hv : ti.vt = .sc (.sl e)) : ∃ T' i, P.underlying T = some (.slice T') ∧ sizeB P T' e.size e.isAg = true ∧ zeroB P T' e = true ∧ P.info? T' = some i ∧ i.bytes = ti.eb := by
  obtain ⟨d, hd, h⟩ := tyB_und h
  rw [hv] at h
  cases d with
  | slice T' =>
    simp only [Bool.and_eq_true] at h
    obtain ⟨⟨⟨⟨h1, h2⟩, _⟩, _⟩, h3⟩ := h
    split at h3
    · rename_i i hi
      exact ⟨T', i, hd, h1, h2, hi, Nat.eq_of_beq_eq_true h3⟩
    · cases h3
  | _ => simp at h
theorem tyB_struct {T : TypeId} {ti : TI} (h : tyB P T ti = true) (hv : ti.flds ≠ []) : ∃ fs, P.underlying T = some (.struct fs) ∧ fldsB P fs.toList ti.flds = true := by
  obtain ⟨d, hd, h⟩ := tyB_und h
  have he : ti.flds.isEmpty = false := by
    cases e : ti.flds with
    | nil => exact absurd e hv
    | cons _ _ => rfl
  split at h <;> simp only [he, Bool.and_eq_true, Bool.false_eq_true, and_false, false_and] at h
  exact ⟨_, hd, h.1⟩
theorem tyB_array {T : TypeId} {ti : TI} (h : tyB P T ti = true) (hv : ti.arr.1 ≠ 0) : ∃ T', P.underlying T = some (.array ti.arr.1 T') ∧ sizeB P T' ti.arr.2.1 ti.arr.2.2 = true := by
  obtain ⟨d, hd, h⟩ := tyB_und h
  have he : Nat.beq ti.arr.1 0 = false := by rw [Bool.eq_false_iff]; exact fun h' => hv (Nat.eq_of_beq_eq_true h')
  split at h <;> simp only [he, Bool.and_eq_true, Bool.false_eq_true, and_false, false_and] at h
  rename_i n T' _
  exact ⟨T', by rw [hd, Nat.eq_of_beq_eq_true h.1.2], h.2⟩
theorem nth_eq {α : Type} : ∀ (l : List α) (n : Nat), nth l n = l[n]?
  | [], n => by cases n <;> rfl
  | y :: l, 0 => rfl
  | y :: l, n + 1 => by simpa [nth] using nth_eq l n
theorem fldsB_ok : ∀ {fs : List Field} {l : List (Nat × Nat × Bool)}, fldsB P fs l = true → ∀ (f : Nat) x, nth l f = some x → ∃ fd, fs[f]? = some fd ∧ fd.offset = x.1 ∧ sizeB P fd.type x.2.1 x.2.2 = true
  | [], [], _, f, x, hx => by cases f <;> cases hx
  | [], _ :: _, h, _, _, _ => by cases h
  | _ :: _, [], h, _, _, _ => by cases h
  | fd :: fs, (off, n, ag) :: l, h, f, x, hx => by
    simp only [fldsB, Bool.and_eq_true] at h
    cases f with
    | zero => cases hx; exact ⟨fd, rfl, Nat.eq_of_beq_eq_true h.1.1, h.1.2⟩
    | succ f => simpa using fldsB_ok h.2 f x hx
theorem wp_convert (hE : EnvOk P E Z) (h : Rel P Z X st a w) (hd : dstOk E o = true) {s d : TypeId} {x : Operand} (ho : o.op = .convert s d x) (hs : step1 E o st some = some st') (hn : Goes P E Z X st st' a w o next) : o.wp P a w next Q := by
  unfold step1 at hs
  rw [ho] at hs
  simp only at hs
  split at hs
  · rename_i ti ti' k n e1 e2 e3
    split at hs
    · rename_i kd e4
      have h1 := tyB_int (hE.tyOf e1) e4
      obtain ⟨d', h2, _⟩ := tyB_und (hE.tyOf e2)
      have h3 := opc_ok h e3
      simp only [RelC, RepS] at h3
      refine wp_value (v := .int kd (kd.wrap n)) (w' := w) (by unfold execOp; rw [ho]; simp [convert, h3, run_underlying h1, run_underlying h2, Conv.intToInt]) ?_
      exact hn.pure h (dst_lt hE hd) (by simp only [RelP, RelC, RepS]) (Option.some.inj hs)
    · cases hs
  · cases hs
theorem wp_extract (hE : EnvOk P E Z) (h : Rel P Z X st a w) (hd : dstOk E o = true) {x : Operand} {i : Nat} (ho : o.op = .extract x i) (hs : step1 E o st some = some st') (hn : Goes P E Z X st st' a w o next) : o.wp P a w next Q := by
  unfold step1 at hs
  rw [ho] at hs
  simp only at hs
  split at hs
  · rename_i vs e1
    obtain ⟨us, h1, h2⟩ := opv_ok h e1
    have key : ∀ y, nth vs i = some y → ∃ u, us[i]? = some u ∧ RelTC P X st.b w y u := by
      intro y hy
      rw [nth_eq] at hy
      obtain ⟨u, hu, hr⟩ := All2.get h2 i y hy
      exact ⟨u, by simpa using hu, hr⟩
    split at hs
    · rename_i p e2
      obtain ⟨u, hu, hr⟩ := key _ e2
      refine wp_value (v := u) (w' := w) (by unfold execOp; rw [ho]; simp [h1, Instr.extract, hu]) ?_
      exact hn.pure h (dst_lt hE hd) (pv := .s p) hr.1.1 (Option.some.inj hs)
    · rename_i ps e2
      obtain ⟨u, hu, hr⟩ := key _ e2
      refine wp_value (v := u) (w' := w) (by unfold execOp; rw [ho]; simp [h1, Instr.extract, hu]) ?_
      exact hn.pure h (dst_lt hE hd) (pv := .agg ps) hr (Option.some.inj hs)
    · cases hs
  · cases hs
theorem caps_ok (h : Rel P Z X st a w) : ∀ {cs : List Operand} {l : List Cap}, caps st cs = some l → All2 (RelCap P X w) l (cs.map a.eval)
  | [], l, e => by cases e; trivial
  | c :: cs, l, e => by
    simp only [caps] at e
    split at e
    · rename_i s r e1 e2
      cases e
      exact ⟨opc_ok h e1, caps_ok h e2⟩
    · rename_i c' r e1 e2
      cases e
      exact ⟨opc_ok h e1, caps_ok h e2⟩
    · cases e
theorem wp_makeFunc (hE : EnvOk P E Z) (h : Rel P Z X st a w) (hd : dstOk E o = true) {f : FuncId} {first cs : Array Operand} (ho : o.op = .makeFunc (.func f) first cs) (hs : step1 E o st some = some st') (hn : Goes P E Z X st st' a w o next) : o.wp P a w next Q := by
  unfold step1 at hs
  rw [ho] at hs
  simp only at hs
  cases hf : Nat.beq first.size 0 with
  | false => rw [hf] at hs; cases hs
  | true =>
    rw [hf] at hs
    simp only [cond_true] at hs
    have e0 : first = #[] := Array.eq_empty_of_size_eq_zero (Nat.eq_of_beq_eq_true hf)
    subst e0
    split at hs
    · rename_i l e1
      refine wp_value (v := .func (.func f) #[] (cs.map a.eval)) (w' := w) (by unfold execOp; rw [ho]; simp [Instr.makeFunc]) ?_
      exact hn.pure h (dst_lt hE hd) (pv := .s (.fn f l)) ⟨_, rfl, by simpa using caps_ok h e1⟩ (Option.some.inj hs)
    · cases hs
end
end Go.PgAM
