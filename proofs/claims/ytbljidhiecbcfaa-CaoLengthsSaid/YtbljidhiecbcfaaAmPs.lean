/-
  The order of a sorted row, in plain Lean: a total order; one sorted permutation.
-/
import Derived.KernelRfl
namespace Go.PgAM
set_option linter.unusedVariables false
/-- An entry: value, mask, length, action. -/
abbrev Ent := Int × Int × Int × Int × Int × Int
def c1 (a b : Int) : Int := if a < b then -1 else if b < a then 1 else 0
def orI (a b : Int) : Int := if a = 0 then b else a
def cmpE (x y : Ent) : Int :=
  orI (c1 y.2.2.2.2.1 x.2.2.2.2.1) (orI (orI (c1 x.1 y.1) (c1 x.2.1 y.2.1)) (orI (orI (c1 x.2.2.1 y.2.2.1) (c1 x.2.2.2.1 y.2.2.2.1)) (c1 x.2.2.2.2.2 y.2.2.2.2.2)))
def ltE (x y : Ent) : Bool := decide (cmpE x y < 0)
theorem c1_lt {a b : Int} : c1 a b < 0 ↔ a < b := by unfold c1; split <;> (try split) <;> omega
theorem c1_eq {a b : Int} : c1 a b = 0 ↔ a = b := by unfold c1; split <;> (try split) <;> omega
theorem orI_lt {a b : Int} : orI a b < 0 ↔ a < 0 ∨ (a = 0 ∧ b < 0) := by unfold orI; split <;> omega
theorem orI_eq {a b : Int} : orI a b = 0 ↔ a = 0 ∧ b = 0 := by unfold orI; split <;> omega
theorem ltE_iff {x y : Ent} : ltE x y = true ↔ y.2.2.2.2.1 < x.2.2.2.2.1 ∨ (y.2.2.2.2.1 = x.2.2.2.2.1 ∧ (x.1 < y.1 ∨ (x.1 = y.1 ∧ (x.2.1 < y.2.1 ∨ (x.2.1 = y.2.1 ∧
    (x.2.2.1 < y.2.2.1 ∨ (x.2.2.1 = y.2.2.1 ∧ (x.2.2.2.1 < y.2.2.2.1 ∨ (x.2.2.2.1 = y.2.2.2.1 ∧ x.2.2.2.2.2 < y.2.2.2.2.2))))))))) := by
  simp only [ltE, cmpE, decide_eq_true_eq, orI_lt, orI_eq, c1_lt, c1_eq]
  constructor <;> (intro h; omega)
theorem ltE_irrefl (x : Ent) : ltE x x = false := by
  cases h : ltE x x with
  | false => rfl
  | true => rw [ltE_iff] at h; omega
theorem ltE_trans {x y z : Ent} (h1 : ltE x y = true) (h2 : ltE y z = true) : ltE x z = true := by
  rw [ltE_iff] at *; omega
theorem ltE_anti {x y : Ent} (h1 : ltE x y = false) (h2 : ltE y x = false) : x = y := by
  have h1 : ¬ ltE x y = true := by rw [h1]; decide
  have h2 : ¬ ltE y x = true := by rw [h2]; decide
  rw [ltE_iff] at h1 h2
  obtain ⟨x1, x2, x3, x4, x5, x6⟩ := x
  obtain ⟨y1, y2, y3, y4, y5, y6⟩ := y
  simp only [Prod.mk.injEq] at *
  omega
theorem ltE_ntrans {x y z : Ent} (h1 : ltE x y = false) (h2 : ltE y z = false) : ltE x z = false := by
  cases h : ltE x z with
  | false => rfl
  | true =>
    cases h3 : ltE y x with
    | true => rw [ltE_trans h3 h] at h2; cases h2
    | false => rw [ltE_anti h1 h3] at h; rw [h] at h2; cases h2
def insE (x : Ent) : List Ent → List Ent
  | [] => [x]
  | y :: l => bif ltE y x then y :: insE x l else x :: y :: l
def srtE : List Ent → List Ent
  | [] => []
  | x :: l => insE x (srtE l)
theorem insE_perm (x : Ent) : ∀ l, (insE x l).Perm (x :: l)
  | [] => .refl _
  | y :: l => by
    unfold insE
    cases ltE y x with
    | true => exact ((insE_perm x l).cons y).trans (.swap x y l)
    | false => exact .refl _
theorem srtE_perm : ∀ l, (srtE l).Perm l
  | [] => .refl _
  | x :: l => (insE_perm x _).trans ((srtE_perm l).cons x)
theorem srtE_length (l : List Ent) : (srtE l).length = l.length := (srtE_perm l).length_eq
theorem insE_sorted (x : Ent) : ∀ {l : List Ent}, l.Pairwise (fun a b => ltE b a = false) → (insE x l).Pairwise (fun a b => ltE b a = false)
  | [], _ => by simp [insE]
  | y :: l, h => by
    rw [List.pairwise_cons] at h
    unfold insE
    cases e : ltE y x with
    | true =>
      simp only [cond_true, List.pairwise_cons]
      refine ⟨fun b hb => ?_, insE_sorted x h.2⟩
      rcases List.mem_cons.1 ((insE_perm x l).mem_iff.1 hb) with rfl | hb
      · cases e' : ltE b y with
        | false => rfl
        | true => have := ltE_trans e e'; rw [ltE_irrefl] at this; cases this
      · exact h.1 b hb
    | false =>
      simp only [cond_false, List.pairwise_cons]
      refine ⟨fun b hb => ?_, h⟩
      rcases List.mem_cons.1 hb with rfl | hb
      · exact e
      · exact ltE_ntrans (h.1 b hb) e
theorem srtE_sorted : ∀ l, (srtE l).Pairwise (fun a b => ltE b a = false)
  | [] => .nil
  | x :: l => insE_sorted x (srtE_sorted l)
/-- There is one sorted permutation. -/
theorem sorted_one {l l' : List Ent} (hp : l.Perm l') (h : l.Pairwise (fun a b => ltE b a = false)) (h' : l'.Pairwise (fun a b => ltE b a = false)) : l = l' :=
  List.Perm.eq_of_pairwise (le := fun a b => ltE b a = false) (fun a b _ _ h1 h2 => ltE_anti h2 h1) h h' hp
end Go.PgAM
