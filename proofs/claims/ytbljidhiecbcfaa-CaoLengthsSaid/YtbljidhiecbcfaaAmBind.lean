/-
  A step's continuation comes last.
-/
import Derived.Test.YtbljidhiecbcfaaAmTy
namespace Go.PgAM
open Go Go.RowKit
set_option linter.unusedVariables false

theorem grd_bind {R S : Type} (c : Bool) (x : Option S) (k : S → Option R) : grd c (x.bind k) = (grd c x).bind k := by cases c <;> rfl
theorem cond_bind {R S : Type} (c : Bool) (x y : Option S) (k : S → Option R) : cond c (x.bind k) (y.bind k) = (cond c x y).bind k := by cases c <;> rfl
theorem splitIdx_bind {R S : Type} (i : Int) (k : S → Option R) (f : Nat → Option S) : ∀ (n j : Nat), splitIdx i n j (fun m => (f m).bind k) = (splitIdx i n j f).bind k
  | 0, j => rfl
  | n + 1, j => by simp only [splitIdx]; rw [splitIdx_bind i k f n (j + 1), cond_bind]
theorem binInt_bind {R : Type} (op : BinOp) (kd kd' : IntKind) (x y : Int) (k : PV → Option R) : binInt op kd kd' x y k = (binInt op kd kd' x y some).bind k := by
  cases op <;> simp only [binInt, ← grd_bind, ← cond_bind, Option.bind_some, Option.bind_none] <;> rfl
theorem binStr_bind {R : Type} (op : BinOp) (x y : ByteArray) (k : PV → Option R) : binStr op x y k = (binStr op x y some).bind k := by
  cases op <;> simp only [binStr, ← grd_bind, Option.bind_some, Option.bind_none]
theorem binBool_bind {R : Type} (op : BinOp) (x y : Bool) (k : PV → Option R) : binBool op x y k = (binBool op x y some).bind k := by
  cases op <;> rfl
theorem binStep_bind {R : Type} (E : Env) (op : BinOp) (T : TypeId) (a b : PV) (k : PV → Option R) : binStep E op T a b k = (binStep E op T a b some).bind k := by
  unfold binStep
  split
  · exact binInt_bind ..
  · exact binStr_bind ..
  · split
    · split
      · exact binBool_bind ..
      · rfl
    · rfl
  · cases memb E.eqs T with
    | false => rfl
    | true =>
      simp only [cond_true]
      repeat' (first | rfl | split)
  · rfl
theorem callCon_bind {R : Type} (E : Env) (con : Con) (args : List PV) (dst : Option Nat) (st : St) (k : St → Option R) : callCon E con args dst st k = (callCon E con args dst st some).bind k := by
  unfold callCon
  split
  · rfl
  · simp only [← cond_bind, Option.bind_none]
    congr 1
    cases con.f _ <;> rfl
theorem appendStep_bind {R : Type} (E : Env) (T : TypeId) (d : Nat) (a b : PV) (st : St) (k : St → Option R) : appendStep E T d a b st k = (appendStep E T d a b st some).bind k := by
  unfold appendStep
  repeat' (first | rfl | (simp only [← cond_bind, ← grd_bind, Option.bind_none, Option.bind_some]; done) | split)
theorem builtinStep_bind {R : Type} (E : Env) (b : Builtin) (args : List PV) (ts : List TypeId) (dst : Option Nat) (st : St) (k : St → Option R) : builtinStep E b args ts dst st k = (builtinStep E b args ts dst st some).bind k := by
  unfold builtinStep
  repeat' (first | rfl | exact appendStep_bind _ _ _ _ _ _ _ | split)
theorem storeElem_bind {R : Type} (E : Env) (tok : Nat) (i : Int) (size : Nat) (v : PV) (st : St) (k : St → Option R) : storeElem E tok i size v st k = (storeElem E tok i size v st some).bind k := by
  unfold storeElem
  split
  · split
    · simp only [← cond_bind, Option.bind_none, Option.bind_some]
    · rfl
  · rfl
theorem ret_bind {R : Type} (v : Option PV) (dst : Option Nat) (st : St) (k : St → Option R) : (match v with | some v => k (st.setT dst v) | none => none) = ((match v with | some v => some (st.setT dst v) | none => none) : Option St).bind k := by
  cases v <;> rfl
theorem binStep_bind' {R : Type} (E : Env) (op : BinOp) (T : TypeId) (a b : PV) (f : PV → St) (k : St → Option R) : (binStep E op T a b fun v => k (f v)) = (binStep E op T a b fun v => some (f v)).bind k := by
  rw [binStep_bind E op T a b (fun v => k (f v)), binStep_bind E op T a b (fun v => some (f v))]
  cases binStep E op T a b some <;> rfl
theorem bind_k {α R : Type} (x : Option α) (f : α → St) (k : St → Option R) : (x.bind fun y => k (f y)) = (x.bind fun y => some (f y)).bind k := by
  cases x <;> rfl
theorem splitIdx_bind' {R : Type} (i : Int) (k : St → Option R) (g : Nat → Option R) (f : Nat → Option St) (h : ∀ m, g m = (f m).bind k) (n j : Nat) : splitIdx i n j g = (splitIdx i n j f).bind k := by
  have : g = fun m => (f m).bind k := funext h
  rw [this]; exact splitIdx_bind i k f n j
theorem step1_bind {R : Type} (E : Env) (o : Oper) (st : St) (k : St → Option R) : step1 E o st k = (step1 E o st some).bind k := by
  unfold step1
  cases o.op <;> simp only []
  all_goals first
    | rfl
    | (repeat' (first
        | rfl
        | exact ret_bind _ _ _ _
        | exact callCon_bind _ _ _ _ _ _
        | exact builtinStep_bind _ _ _ _ _ _ _
        | exact storeElem_bind _ _ _ _ _ _ _
        | exact binStep_bind' _ _ _ _ _ _ _
        | exact bind_k _ _ _
        | (refine splitIdx_bind' _ _ _ _ (fun m => ?_) _ _)
        | (simp only [← cond_bind, ← grd_bind, Option.bind_none, Option.bind_some]; done)
        | split))
end Go.PgAM
