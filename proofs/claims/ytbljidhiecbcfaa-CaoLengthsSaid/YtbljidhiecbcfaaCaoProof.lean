/-
  CaoLengths: of whatever slots and whatever entry the law answers true, and leaves its arguments as they were. No condition.
-/
import Derived.Test.YtbljidhiecbcfaaRows
import Derived.Test.YtbljidhiecbcfaaAmFr
import Derived.Test.YtbljidhiecbcfaaLd
import Derived.Test.YtbljidhiecbcfaaCaoLen
import Derived.ProofKit
namespace Go.Proofs.Ytbljidhiecbcfaa
open Go.ChangeShapes Go.WideShapes Go.ChangeAt Go.RowKit

theorem own : ownKnob Try.prog.godebug = none := by kernel_rfl
theorem laidOut : laidOutB Try.prog = true := by kernel_rfl
abbrev T1 : PgAM.VT := .sc (.sl PgAM.V_bank_Slot)
abbrev T2 : PgAM.VT := PgAM.V_entry_Entry
theorem caoLengths_calls {w : World} {u1 u2 : Value} {x1 : T1.I} {x2 : T2.I} (w1 : T1.wf x1) (w2 : T2.wf x2) (h1 : PgAM.ArgOk Try.prog (PgAM.low w) (PgAM.allF w) w (.d T1) x1 u1 none) (h2 : PgAM.ArgOk Try.prog (PgAM.low w) (PgAM.allF w) w (.d T2) x2 u2 none) :
    Calls Try.prog 5 #[u1, u2] w fun e w' => e = .returned (.bool true) ∧ Below w.heap.size w w' :=
  PgAM.law2 (PgAM.law13_CaoLengths.sound 32) rfl rfl (fun z _ _ => PgAM.caoLengths_true z.1 z.2.1) w1 w2 h1 h2

set_option maxRecDepth 100000 in
theorem caoLengths_lifted (os : Os) (started : os.Started) (H : Type) (enc : TypeId × Value → H) :
    ReturnsInHanded {} Try.checked os 5 .any (Rows.caoLengthsSpec.pre6 enc Try.prog Try.f5 Rows.caoLengthsRow.domain false) (Rows.caoLengthsSpec.post enc Try.prog Try.f5 false true false false) := by
  refine returnsInHanded_of_change (C := Try.checked) own started (by kernel_rfl) Try.func5
    (ChangeSpec.witness6 (enc := enc) (C := Try.checked) false ⟨#[], #[.slice none 0 0, .agg #[.int .u64 0, .int .u64 0, .int .u64 0, .int .u64 0, .int .i64 0, .int .i64 0]], []⟩ 8 (by kernel_rfl) (by kernel_rfl) (by kernel_rfl) (by kernel_rfl)) ?_
  intro W base args ds gs before hval0 hW hcnd _
  have hval : ∀ (j : Nat) t v, Try.f5.params[j]? = some t → args[j]? = some v → Value.okWide Try.prog W .any base t v := hval0
  have hW' := hW
  obtain ⟨p, q, hA0, hV, rfl, hfz, hnd⟩ := hW
  have hA : DataW.TrodAll enc Try.prog W 0 (fun _ => true) true Try.f5.params.toList args.toList ds p := hA0
  rw [Try.params5] at hA hval
  obtain ⟨v0, v1, d0, d1, p0, p1, rfl, rfl, rfl, h0, h1⟩ := trodAll_two hA
  obtain ⟨rfl, rfl⟩ := trodVars_none hV
  clear hA0 hval0
  simp only [List.append_nil] at hW'
  have hlt : ∀ x ∈ p0 ++ p1, x.block < W.heap.size := fun x hx => hW'.lt x hx
  obtain ⟨x0, w0, a0⟩ := PgAM.arg_open (O := PgAM.low W) (n := 10) (t := T1) (hval 0 41 v0 rfl rfl) h0 (by kernel_rfl)
  obtain ⟨x1, w1, a1⟩ := PgAM.arg_open (O := PgAM.low W) (n := 10) (t := T2) (hval 1 45 v1 rfl rfl) h1 (by kernel_rfl)
  refine (caoLengths_calls w0 w1 a0 a1).mono fun e W' ⟨he, hb⟩ => ?_
  subst he
  exact ⟨_, rfl, PgAM.post_below (pa := p0 ++ p1) (pv := []) hW' (fun _ _ _ => trodAll_mk1 (shut_bool Try.underlying4 true)) (fun sp hsp => trodAll_mk2 (WideElems.Trod_stays laidOut (by kernel_rfl) (of_decide_eq_true (by kernel_rfl)) h0 (fun x hx => hb.same (hlt x (by simp [hx]))) (fun x hx => hsp x (by simp [hx]))) (WideElems.Trod_stays laidOut (by kernel_rfl) (of_decide_eq_true (by kernel_rfl)) h1 (fun x hx => hb.same (hlt x (by simp [hx]))) (fun x hx => hsp x (by simp [hx])))) (fun _ _ => rfl) (by simp) hb (ok_one (by kernel_rfl) rfl (okWide_bool_mk Try.underlying4 true))⟩

theorem caoLengths_holds : Rows.CaoLengthsSaid :=
  OpenClaim.holds_of_wide 5 Try.f5 rfl rfl rfl rfl rfl rfl rfl ⟨rfl, rfl, rfl, rfl, rfl⟩ rfl rfl rfl rfl rfl (by kernel_rfl) Try.func5 (by kernel_rfl)
    (of_decide_eq_true (by kernel_rfl)) (by unfold Func.isWrapper; first | (rw [if_pos (by decide +kernel)]; kernel_rfl) | (rw [if_neg (by decide +kernel)]; exact ⟨rfl, rfl⟩))
    (fun os started H enc _ => caoLengths_lifted os started H enc)

#print axioms caoLengths_holds
end Go.Proofs.Ytbljidhiecbcfaa
