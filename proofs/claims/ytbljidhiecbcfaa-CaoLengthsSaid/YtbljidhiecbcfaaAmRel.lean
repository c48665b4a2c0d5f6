/-
  What the abstract machine's values stand for in the model's memory, and how that is kept while the memory grows.
-/
import Derived.Test.YtbljidhiecbcfaaAmDefs
namespace Go.PgAM
open Go Go.RowKit
set_option linter.unusedVariables false

/-- Blocks that nobody writes, and frozen beginnings of others, are as they were. -/
structure Keeps (O : Nat → Prop) (F : Nat → Nat) (w w' : World) : Prop where
  size : w.heap.size ≤ w'.heap.size
  old : ∀ b, O b → w'.heap[b]? = w.heap[b]?
  frz : ∀ b o, o < F b → w'.cell? ⟨b, o, none⟩ = w.cell? ⟨b, o, none⟩

theorem Keeps.refl (O F w) : Keeps O F w w := ⟨Nat.le_refl _, fun _ _ => rfl, fun _ _ _ => rfl⟩
theorem Keeps.trans {O F O' F' w w' w''} (h : Keeps O F w w') (k : Keeps O' F' w' w'') (hO : ∀ b, O b → O' b) (hF : ∀ b, F b ≤ F' b) : Keeps O F w w'' :=
  ⟨Nat.le_trans h.size k.size, fun b hb => (k.old b (hO b hb)).trans (h.old b hb), fun b o ho => (k.frz b o (Nat.lt_of_lt_of_le ho (hF b))).trans (h.frz b o ho)⟩

/-- A step of the memory in which, but for the blocks of a list, all that there was stays. -/
structure Evo (M : List Nat) (F F' : Nat → Nat) (w w' : World) : Prop where
  os : w'.os = w.os
  tape : w'.tape = w.tape
  drawn : w.drawn ≤ w'.drawn
  output : w'.output = w.output
  size : w.heap.size ≤ w'.heap.size
  block : ∀ b, b < w.heap.size → b ∉ M → w'.heap[b]? = w.heap[b]?
  fold : ∀ b, b < w.heap.size → b ∉ M → F' b = F b
  fge : ∀ b, F b ≤ F' b
  fnew : ∀ b, w'.heap.size ≤ b → F' b = 0

/-- A function of the program that has a body is entered. -/
def Enters (P : Program) (f : FuncId) : Prop := ∀ args w, (callFunc f args).run P w = .ok (.enter f args) w

/-- A value's cells, whole. -/
def Whole (v : VT) (u : Value) (g : Nat → Option Value) : Prop := match v with
  | .sc _ => g = fun _ => some u
  | .ag cs => ∃ cells : Array Value, u = .agg cells ∧ cells.size = cs.size ∧ g = fun j => cells[j]?
def packV : List Value → Value
  | [v] => v
  | vs => .tuple vs.toArray

mutual
def RepS (P : Program) : (s : Sc) → (O : Nat → Prop) → (F : Nat → Nat) → (w : World) → s.I → Value → Prop
  | .int k, _, _, _, x, v => v = .int k x
  | .bool, _, _, _, x, v => v = .bool x
  | .str, _, _, _, x, v => v = .string x
  | .sl e, O, F, w, xs, v => ∃ a cap, v = .slice a (List.length (α := e.I) xs) cap ∧ List.length (α := e.I) xs ≤ cap ∧
      (List.length (α := e.I) xs = 0 ∨ ∃ b off, a = some ⟨b, off, none⟩ ∧ off + List.length (α := e.I) xs * e.size ≤ F b ∧
        ∀ i (h : i < List.length (α := e.I) xs), RepV P e O F w (List.get (α := e.I) xs ⟨i, h⟩) (fun j => w.cell? ⟨b, off + i * e.size + j, none⟩))
  | .fn a r, O, F, w, φ, v => ∃ f caps, v = .func (.func f) #[] caps ∧
      ∀ (F' : Nat → Nat) (w' : World), Keeps O F w w' → (∀ b, F b ≤ F' b) → (∀ b, w'.heap.size ≤ b → F' b = 0) → ∀ (x : a.I) (y : r.I), (φ : a.I → Option r.I) x = some y →
        ∀ args, RepWs P a (fun b => b < w'.heap.size) F' w' x args →
          Enters P f ∧ Calls P f (args.toArray ++ caps) w' fun e w'' => ∃ us F'', e = .returned (packV us) ∧ Evo [] F' F'' w' w'' ∧ RepWs P r (fun _ => False) F'' w'' y us
def RepV (P : Program) : (t : VT) → (O : Nat → Prop) → (F : Nat → Nat) → (w : World) → t.I → (Nat → Option Value) → Prop
  | .sc s, O, F, w, x, g => ∃ u, g 0 = some u ∧ RepS P s O F w x u
  | .ag cs, O, F, w, x, g => RepCs P cs O F w x g
def RepCs (P : Program) : (t : Scs) → (O : Nat → Prop) → (F : Nat → Nat) → (w : World) → t.I → (Nat → Option Value) → Prop
  | .nil, _, _, _, _, _ => True
  | .cons s .nil, O, F, w, x, g => ∃ u, g 0 = some u ∧ RepS P s O F w x u
  | .cons s (.cons s' r), O, F, w, x, g => (∃ u, g 0 = some u ∧ RepS P s O F w x.1 u) ∧ RepCs P (.cons s' r) O F w x.2 (fun j => g (j + 1))
def RepWs (P : Program) : (t : VTs) → (O : Nat → Prop) → (F : Nat → Nat) → (w : World) → t.I → List Value → Prop
  | .nil, _, _, _, _, us => us = []
  | .cons v .nil, O, F, w, x, us => ∃ u g, us = [u] ∧ Whole v u g ∧ RepV P v O F w x g
  | .cons v (.cons v' r), O, F, w, x, us => ∃ u us' g, us = u :: us' ∧ Whole v u g ∧ RepV P v O F w x.1 g ∧ RepWs P (.cons v' r) O F w x.2 us'
end

section mono
variable {P : Program} {O O' : Nat → Prop} {F F' : Nat → Nat} {w w' : World}
mutual
theorem RepS.mono (hO : ∀ b, O b → O' b) (hF : ∀ b, F b ≤ F' b) (hK : Keeps O F w w') : (s : Sc) → (x : s.I) → (v : Value) → RepS P s O F w x v → RepS P s O' F' w' x v
  | .int k, x, v, h => by simpa only [RepS] using h
  | .bool, x, v, h => by simpa only [RepS] using h
  | .str, x, v, h => by simpa only [RepS] using h
  | .sl e, xs, v, h => by
    simp only [RepS] at h ⊢
    obtain ⟨a, cap, hv, hc, hx⟩ := h
    refine ⟨a, cap, hv, hc, ?_⟩
    rcases hx with hx | ⟨b, off, ha, hle, hel⟩
    · exact .inl hx
    · refine .inr ⟨b, off, ha, Nat.le_trans hle (hF b), fun i hi => ?_⟩
      refine RepV.mono hO hF hK e _ _ _ (fun j hj => ?_) (hel i hi)
      have : off + i * e.size + j < F b := by
        have h1 : i * e.size + e.size ≤ List.length (α := e.I) xs * e.size := by
          have := Nat.mul_le_mul_right e.size (Nat.succ_le_of_lt hi)
          simpa [Nat.succ_mul] using this
        omega
      exact (hK.frz b _ this).symm
  | .fn a r, φ, v, h => by
    simp only [RepS] at h ⊢
    obtain ⟨f, caps, hv, hx⟩ := h
    exact ⟨f, caps, hv, fun F2 w2 hK2 hF2 hn x y hy args ha => hx F2 w2 (hK.trans hK2 hO hF) (fun b => Nat.le_trans (hF b) (hF2 b)) hn x y hy args ha⟩
theorem RepV.mono (hO : ∀ b, O b → O' b) (hF : ∀ b, F b ≤ F' b) (hK : Keeps O F w w') : (t : VT) → (x : t.I) → (g g' : Nat → Option Value) → (∀ j, j < t.size → g j = g' j) → RepV P t O F w x g → RepV P t O' F' w' x g'
  | .sc s, x, g, g', hg, h => by
    simp only [RepV] at h ⊢
    obtain ⟨u, hu, hr⟩ := h
    exact ⟨u, (hg 0 (by simp [VT.size])).symm.trans hu, RepS.mono hO hF hK s x u hr⟩
  | .ag cs, x, g, g', hg, h => by
    simp only [RepV] at h ⊢
    exact RepCs.mono hO hF hK cs x g g' (fun j hj => hg j (by simpa [VT.size] using hj)) h
theorem RepCs.mono (hO : ∀ b, O b → O' b) (hF : ∀ b, F b ≤ F' b) (hK : Keeps O F w w') : (t : Scs) → (x : t.I) → (g g' : Nat → Option Value) → (∀ j, j < t.size → g j = g' j) → RepCs P t O F w x g → RepCs P t O' F' w' x g'
  | .nil, x, g, g', hg, h => by simp only [RepCs]
  | .cons s .nil, x, g, g', hg, h => by
    simp only [RepCs] at h ⊢
    obtain ⟨u, hu, hr⟩ := h
    exact ⟨u, (hg 0 (by simp [Scs.size])).symm.trans hu, RepS.mono hO hF hK s x u hr⟩
  | .cons s (.cons s' r), x, g, g', hg, h => by
    simp only [RepCs] at h ⊢
    obtain ⟨⟨u, hu, hr⟩, h2⟩ := h
    exact ⟨⟨u, (hg 0 (by simp [Scs.size])).symm.trans hu, RepS.mono hO hF hK s x.1 u hr⟩, RepCs.mono hO hF hK (.cons s' r) x.2 _ _ (fun j hj => hg (j + 1) (by simp only [Scs.size] at hj ⊢; omega)) h2⟩
theorem RepWs.mono (hO : ∀ b, O b → O' b) (hF : ∀ b, F b ≤ F' b) (hK : Keeps O F w w') : (t : VTs) → (x : t.I) → (us : List Value) → RepWs P t O F w x us → RepWs P t O' F' w' x us
  | .nil, x, us, h => by simpa only [RepWs] using h
  | .cons v .nil, x, us, h => by
    simp only [RepWs] at h ⊢
    obtain ⟨u, g, h1, h2, h3⟩ := h
    exact ⟨u, g, h1, h2, RepV.mono hO hF hK v x g g (fun _ _ => rfl) h3⟩
  | .cons v (.cons v' r), x, us, h => by
    simp only [RepWs] at h ⊢
    obtain ⟨u, us', g, h1, h2, h3, h4⟩ := h
    exact ⟨u, us', g, h1, h2, RepV.mono hO hF hK v x.1 g g (fun _ _ => rfl) h3, RepWs.mono hO hF hK (.cons v' r) x.2 us' h4⟩
end
end mono
end Go.PgAM
