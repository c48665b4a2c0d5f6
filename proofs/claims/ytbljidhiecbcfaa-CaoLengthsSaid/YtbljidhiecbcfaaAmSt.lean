/-
  The abstract machine's state against the model's frame and memory.
-/
import Derived.Test.YtbljidhiecbcfaaAmRel
namespace Go.PgAM
open Go Go.RowKit
set_option linter.unusedVariables false

def All2 {α β : Type} (R : α → β → Prop) : List α → List β → Prop
  | [], [] => True
  | a :: l, b :: m => R a b ∧ All2 R l m
  | _, _ => False
theorem All2.imp {α β γ : Type} {R : α → β → Prop} {S : γ → β → Prop} (f : α → γ) (h : ∀ a b, R a b → S (f a) b) : ∀ {l : List α} {m : List β}, All2 R l m → All2 S (l.map f) m
  | [], [], _ => trivial
  | a :: l, b :: m, hx => ⟨h _ _ hx.1, All2.imp f h hx.2⟩
  | [], _ :: _, hx => hx.elim
  | _ :: _, [], hx => hx.elim
theorem All2.imp' {α β : Type} {R S : α → β → Prop} (h : ∀ a b, R a b → S a b) {l : List α} {m : List β} (hx : All2 R l m) : All2 S l m := by
  have := All2.imp (S := S) id h hx
  simpa using this
theorem All2.length {α β : Type} {R : α → β → Prop} : ∀ {l : List α} {m : List β}, All2 R l m → l.length = m.length
  | [], [], _ => rfl
  | _ :: l, _ :: m, h => by simp [All2.length h.2]
  | [], _ :: _, h => h.elim
  | _ :: _, [], h => h.elim
theorem All2.get {α β : Type} {R : α → β → Prop} : ∀ {l : List α} {m : List β}, All2 R l m → ∀ (j : Nat) (x : α), l[j]? = some x → ∃ y, m[j]? = some y ∧ R x y
  | [], [], _, j, x, hj => by simp at hj
  | a :: l, b :: m, h, 0, x, hj => by simp at hj; subst hj; exact ⟨b, by simp, h.1⟩
  | a :: l, b :: m, h, j + 1, x, hj => by simpa using All2.get h.2 j x (by simpa using hj)
  | [], _ :: _, h, _, _, _ => h.elim
  | _ :: _, [], h, _, _, _ => h.elim
theorem All2.of_get {α β : Type} {R : α → β → Prop} : ∀ {l : List α} {m : List β}, l.length = m.length → (∀ (j : Nat) (x : α) (y : β), l[j]? = some x → m[j]? = some y → R x y) → All2 R l m
  | [], [], _, _ => trivial
  | a :: l, b :: m, hl, h => ⟨h 0 a b rfl rfl, All2.of_get (by simpa using hl) fun j x y hx hy => h (j + 1) x y (by simpa using hx) (by simpa using hy)⟩
  | [], _ :: _, hl, _ => by simp at hl
  | _ :: _, [], hl, _ => by simp at hl
theorem All2.append {α β : Type} {R : α → β → Prop} : ∀ {l : List α} {m : List β} {l' : List α} {m' : List β}, All2 R l m → All2 R l' m' → All2 R (l ++ l') (m ++ m')
  | [], [], _, _, _, h => h
  | a :: l, b :: m, _, _, h, h' => ⟨h.1, All2.append h.2 h'⟩
  | [], _ :: _, _, _, h, _ => h.elim
  | _ :: _, [], _, _, h, _ => h.elim
theorem All2.drop {α β : Type} {R : α → β → Prop} : ∀ (n : Nat) {l : List α} {m : List β}, All2 R l m → All2 R (l.drop n) (m.drop n)
  | 0, _, _, h => h
  | n + 1, [], [], _ => trivial
  | n + 1, _ :: l, _ :: m, h => All2.drop n h.2
  | _ + 1, [], _ :: _, h => h.elim
  | _ + 1, _ :: _, [], h => h.elim
theorem All2.take {α β : Type} {R : α → β → Prop} : ∀ (n : Nat) {l : List α} {m : List β}, All2 R l m → All2 R (l.take n) (m.take n)
  | 0, _, _, h => trivial
  | n + 1, [], [], _ => trivial
  | n + 1, _ :: l, _ :: m, h => ⟨h.1, All2.take n h.2⟩
  | _ + 1, [], _ :: _, h => h.elim
  | _ + 1, _ :: _, [], h => h.elim

structure Cx where
  O : Nat → Prop
  F : Nat → Nat
  ρ : Nat → Nat
  β : Nat → Option (Nat × Nat)

def SlAt (β : Nat → Option (Nat × Nat)) (tok n : Nat) (v : Value) : Prop := match β tok with
  | some (b, cap) => v = .slice (some ⟨b, 0, none⟩) n cap
  | none => n = 0 ∧ ∃ a, v = .slice a 0 0
def CellsAt (P : Program) (O : Nat → Prop) (F : Nat → Nat) (w : World) (cs : List DC) (b off : Nat) : Prop :=
  ∀ j c, cs[j]? = some c → ∃ u, w.cell? ⟨b, off + j, none⟩ = some u ∧ RepS P c.s O F w c.x u
def SrefAt (P : Program) (O : Nat → Prop) (F : Nat → Nat) (w : World) (cs : List DC) (v : Value) : Prop :=
  ∃ b off, v = .pointer (some ⟨b, off, none⟩) ∧ (O b ∨ off + cs.length ≤ F b) ∧ CellsAt P O F w cs b off
def RelCap (P : Program) (X : Cx) (w : World) : Cap → Value → Prop
  | .loc r, v => v = .pointer (some ⟨X.ρ r, 0, none⟩)
  | .sref cs, v => SrefAt P X.O X.F w cs v
def RelC (P : Program) (X : Cx) (bs : List (Nat × Buf)) (w : World) : PC → Value → Prop
  | .d c, v => RepS P c.s X.O X.F w c.x v
  | .loc r off, v => v = .pointer (some ⟨X.ρ r, off, none⟩)
  | .sref cs, v => SrefAt P X.O X.F w cs v
  | .own tok, v => ∃ B, look bs tok = some B ∧ SlAt X.β tok B.xs.length v
  | .eptr tok i off cs, v => ∃ B b cap, look bs tok = some B ∧ X.β tok = some (b, cap) ∧ 0 ≤ i ∧ i.toNat < cap ∧ off + cs.length = B.e.size ∧
      v = .pointer (some ⟨b, i.toNat * B.e.size + off, none⟩) ∧ CellsAt P X.O X.F w cs b (i.toNat * B.e.size + off)
  | .fn f caps, v => ∃ vs : Array Value, v = .func (.func f) #[] vs ∧ All2 (RelCap P X w) caps vs.toList
  | .opre tok hi, v => ∃ B, look bs tok = some B ∧ hi ≤ B.xs.length ∧ SlAt X.β tok hi v
  | .osuf tok lo, v => ∃ B, look bs tok = some B ∧ lo ≤ B.xs.length ∧ (match X.β tok with
      | some (b, cap) => ∃ a, v = .slice (some a) (B.xs.length - lo) (cap - lo) ∧ (lo < cap → a = ⟨b, lo * B.e.size, none⟩)
      | none => ∃ a, v = .slice a 0 0)
  | .undef, v => v = Go.undef
  | .dead, _ => True
/-- One cell. -/
def RelK (P : Program) (X : Cx) (bs : List (Nat × Buf)) (w : World) (p : PC) (u : Value) : Prop := RelC P X bs w p u ∧ u.oneCell' = true
def RelTC (P : Program) (X : Cx) (bs : List (Nat × Buf)) (w : World) (x : Bool × List PC) (u : Value) : Prop := match x.1 with
  | true => ∃ cells : Array Value, u = .agg cells ∧ All2 (RelK P X bs w) x.2 cells.toList
  | false => All2 (RelK P X bs w) x.2 [u]
def RelP (P : Program) (X : Cx) (bs : List (Nat × Buf)) (w : World) : PV → Value → Prop
  | .s p, v => RelC P X bs w p v
  | .agg ps, v => ∃ cells : Array Value, v = .agg cells ∧ All2 (RelK P X bs w) ps cells.toList
  | .tup vs, v => ∃ us : Array Value, v = .tuple us ∧ All2 (RelTC P X bs w) vs us.toList

def RowOk (P : Program) (X : Cx) (bs : List (Nat × Buf)) (w : World) (r : Nat) (cells : List PC) : Prop :=
  ¬ X.O (X.ρ r) ∧ X.F (X.ρ r) = 0 ∧ ∃ cs el, w.heap[X.ρ r]? = some (.cells cs el (0, 0)) ∧ All2 (RelK P X bs w) cells cs.toList
def BufOk (P : Program) (X : Cx) (w : World) (tok : Nat) (B : Buf) : Prop := match X.β tok with
  | none => B.xs.length = 0
  | some (b, cap) => ¬ X.O b ∧ (X.F b ≤ if B.x then 0 else B.xs.length * B.e.size) ∧ B.xs.length ≤ cap ∧
      ∃ cs el, w.heap[b]? = some (.cells cs el (0, 0)) ∧ cs.size = cap * B.e.size ∧
        ∀ i (h : i < B.xs.length), RepV P B.e X.O X.F w (List.get B.xs ⟨i, h⟩) (fun j => cs[i * B.e.size + j]?)

/-- Where the call began, and what it may write of what there was. -/
structure At0 where
  w0 : World
  F0 : Nat → Nat
  M0 : List Nat
  nt : Nat
  lo : Nat := 0
  arg : Nat → Value := fun _ => Go.undef
/-- A slot that may be written. -/
def At0.ok (Z : At0) (n : Nat) : Prop := n < Z.nt ∧ Z.lo ≤ n
/-- The first slots stay as they are. -/
structure Frm (Z : At0) (a : Act) : Prop where
  size : Z.nt ≤ a.tmps.size
  arg : ∀ n, n < Z.lo → a.tmps.getD n Go.undef = Z.arg n

structure Rel (P : Program) (Z : At0) (X : Cx) (st : St) (a : Act) (w : World) : Prop where
  O : X.O = fun b => b < Z.w0.heap.size ∧ b ∉ Z.M0
  evo : Evo Z.M0 Z.F0 X.F Z.w0 w
  nt : Frm Z a
  defers : a.defers = []
  t : ∀ n pv, look st.t n = some pv → RelP P X st.b w pv (a.tmps.getD n Go.undef)
  r : ∀ r cells, st.row r = some cells → RowOk P X st.b w r cells
  b : ∀ tok B, look st.b tok = some B → BufOk P X w tok B
  rr : ∀ r r' c c', st.row r = some c → st.row r' = some c' → r ≠ r' → X.ρ r ≠ X.ρ r'
  rb : ∀ r c tok B b cap, st.row r = some c → look st.b tok = some B → X.β tok = some (b, cap) → X.ρ r ≠ b
  bb : ∀ tok tok' B B' b cap b' cap', look st.b tok = some B → look st.b tok' = some B' → X.β tok = some (b, cap) → X.β tok' = some (b', cap') → tok ≠ tok' → b ≠ b'

def Good (P : Program) (Z : At0) (st : St) (a : Act) (w : World) : Prop := ∃ X, Rel P Z X st a w

/-- A step of contexts, buffers and memory, for all parts but those that a test names. -/
structure Moves (X X' : Cx) (bs bs' : List (Nat × Buf)) (w w' : World) (f : PC → Bool) : Prop where
  O : X'.O = X.O
  F : ∀ b, X.F b ≤ X'.F b
  K : Keeps X.O X.F w w'
  ρ : ∀ p r, f p = false → PC.atLoc r p = true → X'.ρ r = X.ρ r
  b1 : ∀ p t, f p = false → PC.atTok t p = true → X'.β t = X.β t ∧ ∀ B, look bs t = some B → ∃ B', look bs' t = some B' ∧ B'.xs.length = B.xs.length ∧ B'.e = B.e
  b2 : ∀ p t, f p = false → PC.ptrTo t p = true → ∀ B b cap, look bs t = some B → X.β t = some (b, cap) → w'.heap[b]? = w.heap[b]?

section
variable {P : Program} {X X' : Cx} {bs bs' : List (Nat × Buf)} {w w' : World} {f : PC → Bool}
theorem cell_of_heap {w w' : World} {b o : Nat} (h : w'.heap[b]? = w.heap[b]?) : w'.cell? ⟨b, o, none⟩ = w.cell? ⟨b, o, none⟩ := by
  simp only [World.cell?, h]
theorem CellsAt.step {O : Nat → Prop} {F F' : Nat → Nat} {cs : List DC} {b off : Nat} (hF : ∀ b, F b ≤ F' b) (hK : Keeps O F w w') (hc : ∀ j, j < cs.length → w'.cell? ⟨b, off + j, none⟩ = w.cell? ⟨b, off + j, none⟩) (h : CellsAt P O F w cs b off) :
    CellsAt P O F' w' cs b off := by
  intro j c hj
  obtain ⟨u, hu, hr⟩ := h j c hj
  have hlt : j < cs.length := by
    rcases Nat.lt_or_ge j cs.length with h' | h'
    · exact h'
    · simp [List.getElem?_eq_none h'] at hj
  exact ⟨u, (hc j hlt).trans hu, RepS.mono (fun _ h => h) hF hK _ _ _ hr⟩
theorem SrefAt.step {O : Nat → Prop} {F F' : Nat → Nat} {cs : List DC} {v : Value} (hF : ∀ b, F b ≤ F' b) (hK : Keeps O F w w') (h : SrefAt P O F w cs v) : SrefAt P O F' w' cs v := by
  obtain ⟨b, off, hv, ho, hc⟩ := h
  refine ⟨b, off, hv, ho.imp id fun h => Nat.le_trans h (hF b), hc.step hF hK fun j hj => ?_⟩
  rcases ho with ho | ho
  · exact cell_of_heap (hK.old b ho)
  · exact hK.frz b _ (by omega)
theorem RelCap.step {c : Cap} {v : Value} (hO : X'.O = X.O) (hF : ∀ b, X.F b ≤ X'.F b) (hK : Keeps X.O X.F w w') (hρ : ∀ r, c.isLoc r = true → X'.ρ r = X.ρ r) (h : RelCap P X w c v) : RelCap P X' w' c v := by
  cases c with
  | loc r => simp only [RelCap] at h ⊢; rw [hρ r (by simp [Cap.isLoc])]; exact h
  | sref cs => simp only [RelCap] at h ⊢; rw [hO]; exact h.step hF hK
theorem All2.imp_mem {α β : Type} {R S : α → β → Prop} : ∀ {l : List α} {m : List β}, (∀ a b, a ∈ l → R a b → S a b) → All2 R l m → All2 S l m
  | [], [], _, _ => trivial
  | a :: l, b :: m, h, hx => ⟨h _ _ (by simp) hx.1, All2.imp_mem (fun a b ha => h a b (by simp [ha])) hx.2⟩
  | [], _ :: _, _, hx => hx.elim
  | _ :: _, [], _, hx => hx.elim
theorem RelC.step (m : Moves X X' bs bs' w w' f) (p : PC) (v : Value) (hf : f p = false) (h : RelC P X bs w p v) : RelC P X' bs' w' p v := by
  cases p with
  | d c => simp only [RelC] at h ⊢; rw [m.O]; exact RepS.mono (fun _ h => h) m.F m.K _ _ _ h
  | loc r off => simp only [RelC] at h ⊢; rw [m.ρ _ r hf (by simp [PC.atLoc])]; exact h
  | sref cs => simp only [RelC] at h ⊢; rw [m.O]; exact h.step m.F m.K
  | own tok =>
    simp only [RelC] at h ⊢
    obtain ⟨B, hB, hv⟩ := h
    obtain ⟨hβ, hx⟩ := m.b1 _ tok hf (by simp [PC.atTok])
    obtain ⟨B', hB', hl, _⟩ := hx B hB
    exact ⟨B', hB', by rw [hl]; simpa only [SlAt, hβ] using hv⟩
  | eptr tok i off cs =>
    simp only [RelC] at h ⊢
    obtain ⟨B, b, cap, hB, hb, h0, hc, hs, hv, hcell⟩ := h
    obtain ⟨hβ, hx⟩ := m.b1 _ tok hf (by simp [PC.atTok])
    obtain ⟨B', hB', hl, he⟩ := hx B hB
    refine ⟨B', b, cap, hB', by rw [hβ]; exact hb, h0, hc, by rw [he]; exact hs, by rw [he]; exact hv, ?_⟩
    rw [he, m.O]
    exact hcell.step m.F m.K fun j _ => cell_of_heap (m.b2 _ tok hf (by simp [PC.ptrTo]) B b cap hB hb)
  | fn f' caps =>
    simp only [RelC] at h ⊢
    obtain ⟨vs, hv, ha⟩ := h
    refine ⟨vs, hv, ha.imp_mem fun c u hc hr => hr.step m.O m.F m.K fun r hl => m.ρ _ r hf ?_⟩
    simp only [PC.atLoc, List.any_eq_true]
    exact ⟨c, hc, hl⟩
  | opre tok hi =>
    simp only [RelC] at h ⊢
    obtain ⟨B, hB, hh, hv⟩ := h
    obtain ⟨hβ, hx⟩ := m.b1 _ tok hf (by simp [PC.atTok])
    obtain ⟨B', hB', hl, _⟩ := hx B hB
    exact ⟨B', hB', by rw [hl]; exact hh, by simpa only [SlAt, hβ] using hv⟩
  | osuf tok lo =>
    simp only [RelC] at h ⊢
    obtain ⟨B, hB, hh, hv⟩ := h
    obtain ⟨hβ, hx⟩ := m.b1 _ tok hf (by simp [PC.atTok])
    obtain ⟨B', hB', hl, he⟩ := hx B hB
    refine ⟨B', hB', by rw [hl]; exact hh, ?_⟩
    rw [hβ, hl, he]; exact hv
  | undef => exact h
  | dead => trivial
theorem RelC.kill_step (m : Moves X X' bs bs' w w' f) (p : PC) (v : Value) (h : RelC P X bs w p v) : RelC P X' bs' w' (p.mapD f) v := by
  unfold PC.mapD
  cases hf : f p with
  | true => simp [RelC]
  | false => simpa using h.step m p v hf
theorem All2.kill_step (m : Moves X X' bs bs' w w' f) {ps : List PC} {us : List Value} (h : All2 (RelK P X bs w) ps us) : All2 (RelK P X' bs' w') (ps.map (PC.mapD f)) us :=
  All2.imp _ (fun p v hx => ⟨RelC.kill_step m p v hx.1, hx.2⟩) h
theorem RelC.one {p : PC} {v : Value} (h : RelC P X bs w p v) (h1 : p ≠ .dead) (h2 : p ≠ .undef) : v.oneCell' = true := by
  cases p with
  | d c =>
    simp only [RelC] at h
    obtain ⟨s, x⟩ := c
    cases s with
    | int k => simp only [RepS] at h; subst h; rfl
    | bool => simp only [RepS] at h; subst h; rfl
    | str => simp only [RepS] at h; subst h; rfl
    | sl e => simp only [RepS] at h; obtain ⟨a, cap, hv, _⟩ := h; subst hv; rfl
    | fn a r => simp only [RepS] at h; obtain ⟨f, caps, hv, _⟩ := h; subst hv; rfl
  | loc r off => simp only [RelC] at h; subst h; rfl
  | sref cs => simp only [RelC, SrefAt] at h; obtain ⟨b, off, hv, _⟩ := h; subst hv; rfl
  | own tok =>
    simp only [RelC, SlAt] at h
    obtain ⟨B, _, hv⟩ := h
    split at hv
    · subst hv; rfl
    · obtain ⟨_, a, hv⟩ := hv; subst hv; rfl
  | eptr tok i off cs => simp only [RelC] at h; obtain ⟨B, b, cap, _, _, _, _, _, hv, _⟩ := h; subst hv; rfl
  | fn f caps => simp only [RelC] at h; obtain ⟨vs, hv, _⟩ := h; subst hv; rfl
  | opre tok hi =>
    simp only [RelC, SlAt] at h
    obtain ⟨B, _, _, hv⟩ := h
    split at hv
    · subst hv; rfl
    · obtain ⟨_, a, hv⟩ := hv; subst hv; rfl
  | osuf tok lo =>
    simp only [RelC] at h
    obtain ⟨B, _, _, hv⟩ := h
    split at hv
    · obtain ⟨a, hv, _⟩ := hv; subst hv; rfl
    · obtain ⟨a, hv⟩ := hv; subst hv; rfl
  | undef => exact absurd rfl h2
  | dead => exact absurd rfl h1
theorem RelP.kill_step (m : Moves X X' bs bs' w w' f) (pv : PV) (v : Value) (h : RelP P X bs w pv v) : RelP P X' bs' w' (pv.mapD f) v := by
  cases pv with
  | s p => exact RelC.kill_step m p v h
  | agg ps => obtain ⟨cells, hv, ha⟩ := h; exact ⟨cells, hv, All2.kill_step m ha⟩
  | tup vs =>
    obtain ⟨us, hv, ha⟩ := h
    refine ⟨us, hv, All2.imp _ (fun x u hx => ?_) ha⟩
    obtain ⟨ag, ps⟩ := x
    cases ag with
    | true => obtain ⟨cells, hu, hc⟩ := hx; exact ⟨cells, hu, All2.kill_step m hc⟩
    | false => exact All2.kill_step m hx
theorem RowOk.kill_step (m : Moves X X' bs bs' w w' f) {r : Nat} {cells : List PC} (hρ : X'.ρ r = X.ρ r) (hF : X'.F (X.ρ r) = X.F (X.ρ r)) (hh : w'.heap[X.ρ r]? = w.heap[X.ρ r]?) (h : RowOk P X bs w r cells) :
    RowOk P X' bs' w' r (cells.map (PC.mapD f)) := by
  obtain ⟨h1, h2, cs, el, h3, h4⟩ := h
  refine ⟨by rw [hρ, m.O]; exact h1, by rw [hρ, hF]; exact h2, cs, el, by rw [hρ, hh]; exact h3, All2.kill_step m h4⟩
theorem BufOk.step (m : Moves X X' bs bs' w w' f) {tok : Nat} {B : Buf} (hβ : X'.β tok = X.β tok) (hF : ∀ b cap, X.β tok = some (b, cap) → X'.F b = X.F b ∧ w'.heap[b]? = w.heap[b]?) (h : BufOk P X w tok B) : BufOk P X' w' tok B := by
  unfold BufOk at h ⊢
  rw [hβ]
  cases hb : X.β tok with
  | none => simpa [hb] using h
  | some q =>
    obtain ⟨b, cap⟩ := q
    simp only [hb] at h ⊢
    obtain ⟨h1, h2, h3, cs, el, h4, h5, h6⟩ := h
    obtain ⟨f1, f2⟩ := hF b cap hb
    refine ⟨by rw [m.O]; exact h1, by rw [f1]; exact h2, h3, cs, el, f2.trans h4, h5, fun i hi => ?_⟩
    rw [m.O]
    exact RepV.mono (fun _ h => h) m.F m.K B.e _ _ _ (fun _ _ => rfl) (h6 i hi)
end

theorem look_map {α β : Type} (g : α → β) : ∀ (l : List (Nat × α)) (n : Nat), look (l.map fun p => (p.1, g p.2)) n = (look l n).map g
  | [], _ => rfl
  | (m, a) :: l, n => by
    simp only [List.map_cons, look]
    cases Nat.beq m n with
    | true => rfl
    | false => simpa using look_map g l n
theorem look_cons {α : Type} (m : Nat) (a : α) (l : List (Nat × α)) (n : Nat) : look ((m, a) :: l) n = if m = n then some a else look l n := by
  simp only [look]
  by_cases h : m = n
  · subst h; simp
  · have : Nat.beq m n = false := by rw [Bool.eq_false_iff]; exact fun h' => h (Nat.eq_of_beq_eq_true h')
    simp [this, h]
theorem kill_t (st : St) (f : PC → Bool) (n : Nat) : look (st.kill f).t n = (look st.t n).map (PV.mapD f) := look_map _ _ _
theorem kill_row (st : St) (f : PC → Bool) (r : Nat) : (st.kill f).row r = (st.row r).map (List.map (PC.mapD f)) := by
  unfold St.row St.kill
  simp only
  rw [look_map (fun o : Option (List PC) => o.map (List.map (PC.mapD f)))]
  cases look st.r r with
  | none => rfl
  | some o => cases o <;> rfl
theorem kill_b (st : St) (f : PC → Bool) : (st.kill f).b = st.b := rfl
end Go.PgAM
