-- The abstract machine's soundness, in the form in which the printed theorems call it.
import Derived.Test.YtbljidhiecbcfaaAmSound
import Derived.Test.YtbljidhiecbcfaaAmEq
namespace Go.PgAM
open Go
variable {P : Program}
theorem soundTab_nil : SoundTab P (fun _ => none) := fun _ _ h => by cases h
theorem soundTab_cons {i : Nat} {c : Con} {t : Tab} (h1 : SoundCon P i c) (h2 : SoundTab P t) : SoundTab P (fun g => cond (Nat.beq g i) (some c) (t g)) := by
  intro f con h
  simp only at h
  cases e : Nat.beq f i with
  | true =>
    rw [e] at h
    cases h
    have e := Nat.eq_of_beq_eq_true e
    subst e
    exact h1
  | false =>
    rw [e] at h
    exact h2 f con h
theorem sound_go {E : Env} (n : Nat) {f : FuncId} {fn : Func} (hf : P.funcs[f]? = some fn) (hb : fn.body.isSome = true) (hname : (fn.name == "runtime.NumGoroutine") = false) (hm : P.follows .mixedOrders = true) (hnt : Nat.ble E.nt fn.ntmps = true)
    (hty : tysB P E.ty = true) (heq : eqsB P n E.ty E.eqs = true) (con : Con) (hlo : Nat.ble E.lo con.as.length = true) (hC : SoundTab P E.C) (hrun : ∀ z y, con.f z = some y → arun E fn con.as con.rs z = some y) : SoundCon P f con := by
  obtain ⟨c, hc⟩ := Option.isSome_iff_exists.1 hb
  exact arun_sound hf hc hname hm (Nat.le_of_ble_eq_true hnt) hty hC (eqsB_ok heq) con (Nat.le_of_ble_eq_true hlo) hrun
end Go.PgAM
