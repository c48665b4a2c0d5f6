/-
  From a contract 'it answers true, of whatever arguments' to the row's last step.
-/
import Derived.Test.YtbljidhiecbcfaaAmOpen
import Derived.Below
import Derived.ChangeSame
import Derived.ProofKit
namespace Go.PgAM
open Go Go.RowKit Go.WideShapes Go.ChangeShapes
set_option linter.unusedVariables false
section
variable {H : Type} {enc : TypeId × Value → H} {P : Program}
theorem post_below {f : Func} {s : ChangeSpec} {apart fresh handsOn again : Bool} {W W' : World} {args : Array Value} {v : Value} {ds gs : List (DataW H)} {before pa pv : List MemPlace}
    (hW : DataW.Whole enc P f.params.toList s.vars apart W args.toList ds gs before)
    (hres : ∀ (b : Nat) (sp : Nat → Bool) (hd : Bool), DataW.TrodAll enc P W' b sp hd f.resultTypes.toList (v.resultList f.resultTypes.size) (s.fn H (ds ++ gs)).results [])
    (hargs : ∀ sp : Nat → Bool, (∀ p ∈ before, sp p.block = true) → DataW.TrodAll enc P W' 0 sp true f.params.toList args.toList (s.fn H (ds ++ gs)).args pa)
    (hvars : ∀ sp : Nat → Bool, (∀ p ∈ before, sp p.block = true) → DataW.TrodVars enc P W' sp s.vars (s.fn H (ds ++ gs)).vars pv)
    (hps : before = pa ++ pv) (hb : RowKit.Below W.heap.size W W')
    (hok : ∀ (j : Nat) (t : TypeId) (r : Value), f.resultTypes[j]? = some t → (v.resultList f.resultTypes.size)[j]? = some r → Value.okWide P W' .any 0 t r) :
    s.post enc P f apart fresh handsOn again W args v W' := by
  have hlt : ∀ p ∈ before, p.block < W.heap.size := fun p hp => hW.lt p hp
  have hold : ∀ p ∈ before, (fun b => decide (b < W.heap.size)) p.block = true := fun p hp => by simpa using hlt p hp
  refine ⟨ds, gs, before, [], pa, pv, hW, hres _ _ _, hargs _ hold, hvars _ hold, World.keptBut_mono (fun p hp => ⟨hp, ?_⟩) (hb.frame (· ∈ before)), fun _ => ?_⟩
  · rw [hps, List.mem_append] at hp
    exact Or.inr hp
  · obtain ⟨_, _, _, _, _, hz, hn⟩ := hW
    refine ⟨hok, _, _, ([] ++ pa) ++ pv, ⟨[] ++ pa, pv, trodAll_append (hargs _ (fun _ _ => rfl)) (hres _ _ _), hvars _ (fun _ _ => rfl), rfl, ?_, ?_⟩, ?_⟩
    · intro b off hp
      have hin : MemPlace.cell b off ∈ before := by rw [hps]; simpa using hp
      rw [hb.frozen (hlt _ hin)]
      exact hz b off hin
    · intro ha
      have := hn ha
      rw [hps] at this
      simpa using this
    · intro p hp _
      rw [hps]
      simpa using hp
end
/-- What lay at the call. -/
def low (w : World) (b : Nat) : Prop := b < w.heap.size ∧ b ∉ ([] : List Nat)
/-- A law of two arguments that answers true, of whatever arguments. -/
theorem law2 {P : Program} {f : FuncId} {con : Con} (hs : SoundCon P f con) {t1 t2 : VT} (has : con.as = [.d t1, .d t2]) (hrs : con.rs = [.d (.sc .bool)])
    (hlaw : ∀ z : ASs.I [.d t1, .d t2], t1.wf z.1 → t2.wf z.2.1 → con.f (has ▸ z) = some (hrs ▸ true)) {w : World} {u1 u2 : Value} {x1 : t1.I} {x2 : t2.I}
    (w1 : t1.wf x1) (w2 : t2.wf x2) (h1 : ArgOk P (low w) (allF w) w (.d t1) x1 u1 none) (h2 : ArgOk P (low w) (allF w) w (.d t2) x2 u2 none) :
    Calls P f #[u1, u2] w fun e w' => e = .returned (.bool true) ∧ RowKit.Below w.heap.size w w' := by
  obtain ⟨as, rs, g⟩ := con
  cases has
  cases hrs
  refine (hs.2 (x1, x2, ()) true (hlaw (x1, x2, ()) w1 w2) (allF w) w [u1, u2] [none, none] (allF_new w) List.nodup_nil ⟨_, _, _, _, rfl, rfl, h1, _, _, _, _, rfl, rfl, h2, rfl, rfl⟩).mono ?_
  rintro e w' ⟨vs, F', ps, rfl, hev, hres, -, -⟩
  obtain ⟨u, q, rfl, rfl, -, g', hg, hr⟩ := hres
  simp only [Whole] at hg
  subst hg
  simp only [RepV, RepS] at hr
  obtain ⟨u', hu, hr⟩ := hr
  cases hu
  subst hr
  exact ⟨rfl, hev.below⟩
end Go.PgAM
