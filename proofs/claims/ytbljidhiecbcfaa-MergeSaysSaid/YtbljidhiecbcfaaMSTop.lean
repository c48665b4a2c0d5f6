/-
  MergeSays: of whatever arguments the law answers true, and leaves them as they were. No condition.
-/
import Derived.Test.YtbljidhiecbcfaaRows
import Derived.ProofKit
import Derived.Test.YtbljidhiecbcfaaMS6
namespace Go.Proofs.Ytbljidhiecbcfaa
open Go.ChangeShapes Go.WideShapes Go.ChangeAt Go.RowKit

theorem own : ownKnob Try.prog.godebug = none := by kernel_rfl
theorem laidOut : laidOutB Try.prog = true := by kernel_rfl
abbrev T0 : PgAM.VT := .sc (.sl PgAM.V_rib_Route)
abbrev T1 : PgAM.VT := PgAM.V_addr_Addr
theorem mergeSays_calls {w : World} {u0 u1 : Value} {x0 : T0.I} {x1 : T1.I} (w0 : T0.wf x0) (w1 : T1.wf x1) (h0 : PgAM.ArgOk Try.prog (PgAM.low w) (PgAM.allF w) w (.d T0) x0 u0 none) (h1 : PgAM.ArgOk Try.prog (PgAM.low w) (PgAM.allF w) w (.d T1) x1 u1 none) :
    Calls Try.prog 4 #[u0, u1] w fun e w' => e = .returned (.bool true) ∧ Below w.heap.size w w' :=
  PgAM.law2 (PgAM.law10_MergeSays.sound 300) rfl rfl (fun z h1 h2 => PgAM.mergeSays_true z.1 z.2.1 (PgAM.okRs_wf h1) (PgAM.okA_wf h2)) w0 w1 h0 h1

set_option maxRecDepth 100000 in
theorem mergeSays_lifted (os : Os) (started : os.Started) (H : Type) (enc : TypeId × Value → H) :
    ReturnsInHanded {} Try.checked os 4 .any (Rows.mergeSaysSpec.pre6 enc Try.prog Try.f4 Rows.mergeSaysRow.domain false) (Rows.mergeSaysSpec.post enc Try.prog Try.f4 false true false false) := by
  refine returnsInHanded_of_change (C := Try.checked) own started (by kernel_rfl) Try.func4
    (ChangeSpec.witness6 (enc := enc) (C := Try.checked) false ⟨#[], #[.slice none 0 0, .agg #[.int .u64 0, .int .u64 0]], []⟩ 8 (by kernel_rfl) (by kernel_rfl) (by kernel_rfl) (by kernel_rfl)) ?_
  intro W base args ds gs before hval0 hW hcnd _
  have hval : ∀ (j : Nat) t v, Try.f4.params[j]? = some t → args[j]? = some v → Value.okWide Try.prog W .any base t v := hval0
  have hW' := hW
  obtain ⟨p, q, hA0, hV, rfl, hfz, hnd⟩ := hW
  have hA : DataW.TrodAll enc Try.prog W 0 (fun _ => true) true Try.f4.params.toList args.toList ds p := hA0
  rw [Try.params4] at hA hval
  obtain ⟨v0, v1, d0, d1, p0, p1, rfl, rfl, rfl, h0, h1⟩ := trodAll_two hA
  obtain ⟨rfl, rfl⟩ := trodVars_none hV
  clear hA0 hval0
  simp only [List.append_nil] at hW'
  have hlt : ∀ x ∈ p0 ++ p1, x.block < W.heap.size := fun x hx => hW'.lt x hx
  obtain ⟨x0, w0, a0⟩ := PgAM.arg_open (O := PgAM.low W) (n := 10) (t := T0) (hval 0 34 v0 rfl rfl) h0 (by kernel_rfl)
  obtain ⟨x1, w1, a1⟩ := PgAM.arg_open (O := PgAM.low W) (n := 10) (t := T1) (hval 1 25 v1 rfl rfl) h1 (by kernel_rfl)
  refine (mergeSays_calls w0 w1 a0 a1).mono fun e W' ⟨he, hb⟩ => ?_
  subst he
  exact ⟨_, rfl, PgAM.post_below (pa := p0 ++ p1) (pv := []) hW' (fun _ _ _ => trodAll_mk1 (shut_bool Try.underlying4 true)) (fun sp hsp => trodAll_mk2 (WideElems.Trod_stays laidOut (by kernel_rfl) (of_decide_eq_true (by kernel_rfl)) h0 (fun x hx => hb.same (hlt x (by simp [hx]))) (fun x hx => hsp x (by simp [hx]))) (WideElems.Trod_stays laidOut (by kernel_rfl) (of_decide_eq_true (by kernel_rfl)) h1 (fun x hx => hb.same (hlt x (by simp [hx]))) (fun x hx => hsp x (by simp [hx])))) (fun _ _ => rfl) (by simp) hb (ok_one (by kernel_rfl) rfl (okWide_bool_mk Try.underlying4 true))⟩

theorem mergeSays_holds : Rows.MergeSaysSaid :=
  OpenClaim.holds_of_wide 4 Try.f4 rfl rfl rfl rfl rfl rfl rfl ⟨rfl, rfl, rfl, rfl, rfl⟩ rfl rfl rfl rfl rfl (by kernel_rfl) Try.func4 (by kernel_rfl)
    (of_decide_eq_true (by kernel_rfl)) (by unfold Func.isWrapper; first | (rw [if_pos (by decide +kernel)]; kernel_rfl) | (rw [if_neg (by decide +kernel)]; exact ⟨rfl, rfl⟩))
    (fun os started H enc _ => mergeSays_lifted os started H enc)

#print axioms mergeSays_holds
end Go.Proofs.Ytbljidhiecbcfaa
