/-
  What a function is handed and what it hands back; a function's literal as a value.
-/
import Derived.Test.YtbljidhiecbcfaaAmCall
namespace Go.PgAM
open Go Go.RowKit
set_option linter.unusedVariables false

/-- A buffer, whole: nothing, or the whole of a block of which nothing is frozen. -/
def BufVal (P : Program) (O : Nat → Prop) (F : Nat → Nat) (w : World) (e : VT) (xs : List e.I) (v : Value) : Option (Nat × Nat) → Prop
  | none => xs.length = 0 ∧ ∃ a, v = .slice a 0 0
  | some (b, cap) => v = .slice (some ⟨b, 0, none⟩) xs.length cap ∧ F b = 0 ∧ xs.length ≤ cap ∧
      ∃ cs el, w.heap[b]? = some (.cells cs el (0, 0)) ∧ cs.size = cap * e.size ∧
        ∀ i (h : i < xs.length), RepV P e O F w (List.get xs ⟨i, h⟩) (fun j => cs[i * e.size + j]?)
def ArgOk (P : Program) (O : Nat → Prop) (F : Nat → Nat) (w : World) : (a : AS) → a.I → Value → Option (Nat × Nat) → Prop
  | .d v, x, u, q => q = none ∧ ∃ g, Whole v u g ∧ RepV P v O F w x g
  | .ref cs, x, u, q => q = none ∧ SrefAt P O F w (cs.cells x) u
  | .mv e, xs, u, q => BufVal P O F w e xs u q
def ArgsOk (P : Program) (O : Nat → Prop) (F : Nat → Nat) (w : World) : (as : List AS) → ASs.I as → List Value → List (Option (Nat × Nat)) → Prop
  | [], _, us, qs => us = [] ∧ qs = []
  | a :: as, z, us, qs => ∃ u us' q qs', us = u :: us' ∧ qs = q :: qs' ∧ ArgOk P O F w a z.1 u q ∧ ArgsOk P O F w as z.2 us' qs'
def ResOk (P : Program) (F : Nat → Nat) (w : World) : (r : RS) → r.I → Value → Option (Nat × Nat) → Prop
  | .d v, x, u, q => q = none ∧ ∃ g, Whole v u g ∧ RepV P v (fun _ => False) F w x g
  | .fresh e, xs, u, q => BufVal P (fun _ => False) F w e xs u q
def RessOk (P : Program) (F : Nat → Nat) (w : World) : (rs : List RS) → RSs.I rs → List Value → List (Option (Nat × Nat)) → Prop
  | [], _, us, qs => us = [] ∧ qs = []
  | [r], y, us, qs => ∃ u q, us = [u] ∧ qs = [q] ∧ ResOk P F w r y u q
  | r :: r' :: rs, y, us, qs => ∃ u us' q qs', us = u :: us' ∧ qs = q :: qs' ∧ ResOk P F w r y.1 u q ∧ RessOk P F w (r' :: rs) y.2 us' qs'
/-- The blocks. -/
def blk : List (Option (Nat × Nat)) → List Nat
  | [] => []
  | none :: l => blk l
  | some (b, _) :: l => b :: blk l

/-- A function keeps its contract. -/
def SoundCon (P : Program) (f : FuncId) (con : Con) : Prop :=
  Enters P f ∧ ∀ z y, con.f z = some y → ∀ (F : Nat → Nat) (w : World) (us : List Value) (qs : List (Option (Nat × Nat))),
    (∀ b, w.heap.size ≤ b → F b = 0) → (blk qs).Nodup → ArgsOk P (fun b => b < w.heap.size ∧ b ∉ blk qs) F w con.as z us qs →
      Calls P f us.toArray w fun e w' => ∃ vs F' ps, e = .returned (packV vs) ∧ Evo (blk qs) F F' w w' ∧ RessOk P F' w' con.rs y vs ps ∧
        (blk ps).Nodup ∧ ∀ b, b ∈ blk ps → w.heap.size ≤ b ∨ b ∈ blk qs
def SoundTab (P : Program) (C : Tab) : Prop := ∀ f con, C f = some con → SoundCon P f con

section view
variable (P : Program) (st : St) (O : Nat → Prop) (F : Nat → Nat) (w : World)
def VC0 : PC → Value → Prop
  | .d c, v => RepS P c.s O F w c.x v
  | .own tok, v => ∀ B, look st.b tok = some B → RepS P (.sl B.e) O F w B.xs v
  | _, _ => True
def VRow (r off : Nat) (v : Value) : Prop :=
  ∃ b, v = .pointer (some ⟨b, off, none⟩) ∧ ∀ cells, st.row r = some cells → O b ∧ ∃ cs el, w.heap[b]? = some (.cells cs el (0, 0)) ∧ All2 (VC0 P st O F w) cells cs.toList
def VCap : Cap → Value → Prop
  | .loc r, v => VRow P st O F w r 0 v
  | .sref cs, v => SrefAt P O F w cs v
def VC : PC → Value → Prop
  | .fn f caps, v => ∃ vs : Array Value, v = .func (.func f) #[] vs ∧ All2 (VCap P st O F w) caps vs.toList
  | p, v => VC0 P st O F w p v
def VP : PV → Value → Prop
  | .s (.loc r off), v => VRow P st O F w r off v
  | .s (.sref cs), v => SrefAt P O F w cs v
  | .s (.eptr _ _ _ cs), v => SrefAt P O F w cs v
  | .s p, v => VC P st O F w p v
  | .agg ps, v => ∃ cells : Array Value, v = .agg cells ∧ All2 (VC P st O F w) ps cells.toList
  | .tup _, _ => True
end view

section
variable {P : Program} {st : St} {O O' : Nat → Prop} {F F' : Nat → Nat} {w w' : World}

theorem VC0.mono (hO : ∀ b, O b → O' b) (hF : ∀ b, F b ≤ F' b) (hK : Keeps O F w w') (p : PC) (v : Value) (h : VC0 P st O F w p v) : VC0 P st O' F' w' p v := by
  cases p with
  | d c => exact RepS.mono hO hF hK _ _ _ h
  | own tok => exact fun B hB => RepS.mono hO hF hK _ _ _ (h B hB)
  | _ => trivial
theorem SrefAt.mono {cs : List DC} {v : Value} (hO : ∀ b, O b → O' b) (hF : ∀ b, F b ≤ F' b) (hK : Keeps O F w w') (h : SrefAt P O F w cs v) : SrefAt P O' F' w' cs v := by
  obtain ⟨b, off, hv, ho, hc⟩ := h
  refine ⟨b, off, hv, ho.imp (hO b) fun h => Nat.le_trans h (hF b), fun j c hj => ?_⟩
  obtain ⟨u, hu, hr⟩ := hc j c hj
  have hlt : j < cs.length := by
    rcases Nat.lt_or_ge j cs.length with h' | h'
    · exact h'
    · simp [List.getElem?_eq_none h'] at hj
  refine ⟨u, ?_, RepS.mono hO hF hK _ _ _ hr⟩
  rcases ho with ho | ho
  · exact (cell_of_heap (hK.old b ho)).trans hu
  · exact (hK.frz b _ (by omega)).trans hu
theorem VRow.mono (hO : ∀ b, O b → O' b) (hF : ∀ b, F b ≤ F' b) (hK : Keeps O F w w') {r off : Nat} {v : Value} (h : VRow P st O F w r off v) : VRow P st O' F' w' r off v := by
  obtain ⟨b, hv, hx⟩ := h
  refine ⟨b, hv, fun cells hc => ?_⟩
  obtain ⟨ho, cs, el, hh, ha⟩ := hx cells hc
  exact ⟨hO b ho, cs, el, (hK.old b ho).trans hh, All2.imp' (fun p u => VC0.mono hO hF hK p u) ha⟩
theorem VCap.mono (hO : ∀ b, O b → O' b) (hF : ∀ b, F b ≤ F' b) (hK : Keeps O F w w') (c : Cap) (v : Value) (h : VCap P st O F w c v) : VCap P st O' F' w' c v := by
  cases c with
  | loc r => exact VRow.mono hO hF hK h
  | sref cs => exact SrefAt.mono hO hF hK h

theorem ofPCs0_e (st : St) (s : Sc) (r : Scs) : ofPCs0 st (.cons s r) [] = none := by cases r <;> rfl
theorem ofPCs0_1 (st : St) (s : Sc) (c : PC) (l : List PC) : ofPCs0 st (.cons s .nil) (c :: l) = toSc0 st s c := rfl
theorem ofPCs0_2 (st : St) (s s' : Sc) (r : Scs) (c : PC) (l : List PC) : ofPCs0 st (.cons s (.cons s' r)) (c :: l) = match toSc0 st s c, ofPCs0 st (.cons s' r) l with
    | some a, some b => some (a, b)
    | _, _ => none := rfl
theorem ofPCs_e (C : Tab) (st : St) (s : Sc) (r : Scs) : ofPCs C st (.cons s r) [] = none := by cases r <;> rfl
theorem ofPCs_1 (C : Tab) (st : St) (s : Sc) (c : PC) (l : List PC) : ofPCs C st (.cons s .nil) (c :: l) = toSc C st s c := rfl
theorem ofPCs_2 (C : Tab) (st : St) (s s' : Sc) (r : Scs) (c : PC) (l : List PC) : ofPCs C st (.cons s (.cons s' r)) (c :: l) = match toSc C st s c, ofPCs C st (.cons s' r) l with
    | some a, some b => some (a, b)
    | _, _ => none := rfl
theorem ScsofDC_e (s : Sc) (r : Scs) : ScsofDC (.cons s r) [] = none := by cases r <;> rfl
theorem ScsofDC_1 (s : Sc) (c : DC) (l : List DC) : ScsofDC (.cons s .nil) (c :: l) = c.as s := rfl
theorem ScsofDC_2 (s s' : Sc) (r : Scs) (c : DC) (l : List DC) : ScsofDC (.cons s (.cons s' r)) (c :: l) = match c.as s, ScsofDC (.cons s' r) l with
    | some a, some b => some (a, b)
    | _, _ => none := rfl
theorem toSc0_ok {s : Sc} {p : PC} {x : s.I} {v : Value} (h : toSc0 st s p = some x) (hv : VC0 P st O F w p v) : RepS P s O F w x v := by
  unfold toSc0 at h
  split at h
  · have := DC.as_some h
    rename_i c; subst this; exact hv
  · split at h
    · rename_i tok B hB
      have := DC.as_some h
      have hv := hv B hB
      cases this; exact hv
    · simp at h
  · simp at h
theorem ofPCs0_ok : ∀ (t : Scs) {ps : List PC} {x : t.I} {us : List Value}, ofPCs0 st t ps = some x → All2 (VC0 P st O F w) ps us → RepCs P t O F w x (fun j => us[j]?)
  | .nil, _, _, _, _, _ => by simp only [RepCs]
  | .cons s .nil, [], _, _, h, _ => by rw [ofPCs0_e] at h; cases h
  | .cons s .nil, p :: ps, x, [], _, hv => hv.elim
  | .cons s .nil, p :: ps, x, u :: us, h, hv => by
    rw [ofPCs0_1] at h
    simp only [RepCs]
    exact ⟨u, by simp, toSc0_ok h hv.1⟩
  | .cons s (.cons s' r), [], _, _, h, _ => by rw [ofPCs0_e] at h; cases h
  | .cons s (.cons s' r), p :: ps, x, [], _, hv => hv.elim
  | .cons s (.cons s' r), p :: ps, x, u :: us, h, hv => by
    rw [ofPCs0_2] at h
    split at h
    · rename_i a b ha hb
      have h := Option.some.inj h; subst h
      simp only [RepCs]
      exact ⟨⟨u, by simp, toSc0_ok ha hv.1⟩, by simpa using ofPCs0_ok (.cons s' r) hb hv.2⟩
    · simp at h

theorem cells_length : ∀ (t : Scs) (x : t.I), (t.cells x).length = t.size
  | .nil, _ => rfl
  | .cons s .nil, x => rfl
  | .cons s (.cons s' r), x => by simp only [Scs.cells, List.length_cons, Scs.size]; rw [cells_length (.cons s' r) x.2]; rfl
theorem RepCs.cells : ∀ (t : Scs) {x : t.I} {g : Nat → Option Value}, RepCs P t O F w x g → ∀ j c, (t.cells x)[j]? = some c → ∃ u, g j = some u ∧ RepS P c.s O F w c.x u
  | .nil, x, g, _, j, c, hj => by simp [Scs.cells] at hj
  | .cons s .nil, x, g, h, j, c, hj => by
    simp only [RepCs] at h
    obtain ⟨u, hu, hr⟩ := h
    cases j with
    | zero => simp [Scs.cells] at hj; subst hj; exact ⟨u, hu, hr⟩
    | succ j => simp [Scs.cells] at hj
  | .cons s (.cons s' r), x, g, h, j, c, hj => by
    simp only [RepCs] at h
    obtain ⟨⟨u, hu, hr⟩, h2⟩ := h
    cases j with
    | zero => simp [Scs.cells] at hj; subst hj; exact ⟨u, hu, hr⟩
    | succ j => exact RepCs.cells (.cons s' r) h2 j c (by simpa [Scs.cells] using hj)
theorem RepCs.of_cells : ∀ (t : Scs) {x : t.I} {g : Nat → Option Value}, (∀ j c, (t.cells x)[j]? = some c → ∃ u, g j = some u ∧ RepS P c.s O F w c.x u) → RepCs P t O F w x g
  | .nil, x, g, _ => by simp only [RepCs]
  | .cons s .nil, x, g, h => by
    simp only [RepCs]; exact h 0 ⟨s, x⟩ (by simp [Scs.cells])
  | .cons s (.cons s' r), x, g, h => by
    simp only [RepCs]
    exact ⟨h 0 ⟨s, x.1⟩ (by simp [Scs.cells]), RepCs.of_cells (.cons s' r) fun j c hj => h (j + 1) c (by simpa [Scs.cells] using hj)⟩
theorem ScsofDC_some : ∀ (t : Scs) {l : List DC} {x : t.I}, ScsofDC t l = some x → ∃ r, l = t.cells x ++ r
  | .nil, l, x, _ => ⟨l, rfl⟩
  | .cons s .nil, [], x, h => by rw [ScsofDC_e] at h; cases h
  | .cons s .nil, c :: l, x, h => by
    rw [ScsofDC_1] at h
    exact ⟨l, by rw [DC.as_some h]; rfl⟩
  | .cons s (.cons s' r), [], x, h => by rw [ScsofDC_e] at h; cases h
  | .cons s (.cons s' r), c :: l, x, h => by
    rw [ScsofDC_2] at h
    split at h
    · rename_i a b ha hb
      have h := Option.some.inj h; subst h
      obtain ⟨r', hr⟩ := ScsofDC_some (.cons s' r) hb
      exact ⟨r', by rw [DC.as_some ha, hr]; rfl⟩
    · simp at h
theorem SrefAt.pre {cs r : List DC} {v : Value} (h : SrefAt P O F w (cs ++ r) v) : SrefAt P O F w cs v := by
  obtain ⟨b, off, hv, ho, hc⟩ := h
  refine ⟨b, off, hv, ho.imp id fun h => by simp at h; omega, fun j c hj => hc j c ?_⟩
  have hlt : j < cs.length := by
    rcases Nat.lt_or_ge j cs.length with h' | h'
    · exact h'
    · simp [List.getElem?_eq_none h'] at hj
  rw [List.getElem?_append_left hlt]; exact hj
theorem SrefAt.ofDC {cs : Scs} {l : List DC} {x : cs.I} {v : Value} (hx : ScsofDC cs l = some x) (h : SrefAt P O F w l v) : SrefAt P O F w (cs.cells x) v := by
  obtain ⟨r, rfl⟩ := ScsofDC_some cs hx
  exact h.pre
theorem VRow.sref {r off : Nat} {v : Value} {cs : Scs} {cells : List PC} {x : cs.I} (h : VRow P st O F w r off v) (hr : st.row r = some cells) (hx : ofPCs0 st cs (cells.drop off) = some x) :
    SrefAt P O F w (cs.cells x) v := by
  obtain ⟨b, hv, hb⟩ := h
  obtain ⟨ho, cells', el, hh, ha⟩ := hb cells hr
  refine ⟨b, off, hv, .inl ho, fun j c hj => ?_⟩
  have hc := ofPCs0_ok cs hx (All2.drop off ha)
  obtain ⟨u, hu, hs⟩ := RepCs.cells cs hc j c hj
  refine ⟨u, ?_, hs⟩
  simp only [World.cell?, hh]
  simpa using hu
theorem decArg0_ok {a : AS} {p : PV} {x : a.I} {v : Value} (h : decArg0 st a p = some x) (hv : VP P st O F w p v) : ArgOk P O F w a x v none := by
  cases a with
  | d t =>
    cases t with
    | sc s =>
      cases p with
      | s p =>
        have h : toSc0 st s p = some x := h
        refine ⟨rfl, _, rfl, ?_⟩
        simp only [RepV]
        refine ⟨v, rfl, toSc0_ok h ?_⟩
        cases p with
        | loc r off => cases h
        | sref cs => cases h
        | eptr a b c d => cases h
        | fn f caps => cases h
        | _ => exact hv
      | agg ps => cases h
      | tup vs => cases h
    | ag cs =>
      cases p with
      | s p => cases h
      | tup vs => cases h
      | agg ps =>
        have h : cond (Nat.beq ps.length cs.size) (ofPCs0 st cs ps) none = some x := h
        obtain ⟨cells, rfl, ha⟩ := hv
        cases hl : Nat.beq ps.length cs.size with
        | false => rw [hl] at h; cases h
        | true =>
          rw [hl] at h
          have h : ofPCs0 st cs ps = some x := h
          refine ⟨rfl, _, ⟨cells, rfl, ?_, rfl⟩, ?_⟩
          · have := All2.length ha
            simp at this; rw [← this]; exact Nat.eq_of_beq_eq_true hl
          · simp only [RepV]
            have : All2 (VC0 P st O F w) ps cells.toList := by
              refine ha.imp_mem fun p u _ hx => ?_
              cases p with
              | fn f caps => trivial
              | _ => exact hx
            simpa using ofPCs0_ok cs h this
  | mv e => cases p <;> cases h
  | ref cs =>
    cases p with
    | agg ps => cases h
    | tup vs => cases h
    | s p =>
      cases p with
      | sref l => exact ⟨rfl, SrefAt.ofDC (show ScsofDC cs l = some x from h) hv⟩
      | eptr a b c l => exact ⟨rfl, SrefAt.ofDC (show ScsofDC cs l = some x from h) hv⟩
      | loc r off =>
        have h : (match st.row r with
          | some cells => ofPCs0 st cs (cells.drop off)
          | none => none) = some x := h
        split at h
        · rename_i cells hr
          exact ⟨rfl, VRow.sref hv hr h⟩
        · cases h
      | _ => cases h
theorem decArgs0_ok : ∀ (as : List AS) {ps : List PV} {z : ASs.I as} {us : List Value}, decArgs0 st as ps = some z → All2 (VP P st O F w) ps us → ArgsOk P O F w as z us (us.map fun _ => none)
  | [], [], _, [], _, _ => ⟨rfl, rfl⟩
  | [], [], _, _ :: _, _, h => h.elim
  | [], _ :: _, _, _, h, _ => by simp [decArgs0] at h
  | _ :: _, [], _, _, h, _ => by simp [decArgs0] at h
  | a :: as, p :: ps, z, [], _, h => h.elim
  | a :: as, p :: ps, z, u :: us, h, hv => by
    simp only [decArgs0] at h
    split at h
    · rename_i x y hx hy
      have h := Option.some.inj h; subst h
      exact ⟨u, us, none, _, rfl, rfl, decArg0_ok hx hv.1, decArgs0_ok as hy hv.2⟩
    · simp at h
theorem blk_none {α : Type} : ∀ (us : List α), blk (us.map fun _ => none) = []
  | [] => rfl
  | _ :: us => blk_none us

theorem Whole.enc {v : VT} {x : v.I} {u : Value} {g : Nat → Option Value} (h : Whole v u g) (hr : RepV P v O F w x g) : VP P st O F w (encVT v x) u := by
  cases v with
  | sc s =>
    simp only [Whole] at h
    subst h
    simp only [RepV] at hr
    obtain ⟨u', hu, hs⟩ := hr
    cases hu
    exact hs
  | ag cs =>
    obtain ⟨cells, rfl, hsz, rfl⟩ := h
    simp only [RepV] at hr
    refine ⟨cells, rfl, ?_⟩
    have hl := cells_length cs x
    refine All2.of_get (by simp [hl, hsz]) fun j p u hj hu => ?_
    simp only [List.getElem?_map, Option.map_eq_some_iff] at hj
    obtain ⟨c, hc, rfl⟩ := hj
    obtain ⟨u', hu', hs⟩ := RepCs.cells cs hr j c hc
    have : u' = u := by
      simp at hu hu'
      rw [hu] at hu'; simpa using hu'.symm
    subst this
    exact hs
theorem encVTs_ok : ∀ (vs : VTs) {x : vs.I} {us : List Value}, RepWs P vs O F w x us → All2 (VP P st O F w) (encVTs vs x) us
  | .nil, x, us, h => by simp only [RepWs] at h; subst h; trivial
  | .cons v .nil, x, us, h => by
    simp only [RepWs] at h
    obtain ⟨u, g, rfl, hw, hr⟩ := h
    exact ⟨Whole.enc hw hr, trivial⟩
  | .cons v (.cons v' r), x, us, h => by
    simp only [RepWs] at h
    obtain ⟨u, us', g, rfl, hw, hr, h2⟩ := h
    exact ⟨Whole.enc hw hr, encVTs_ok (.cons v' r) h2⟩

/-- A row's cells. -/
def rowLen (w : World) (b : Nat) : Nat := match w.heap[b]? with
  | some (.cells cs _ _) => cs.size
  | _ => 0
/-- All of some blocks is frozen. -/
def bump (F : Nat → Nat) (w : World) (bs : List Nat) : Nat → Nat := fun b => if b ∈ bs then max (F b) (rowLen w b) else F b
theorem bump_ge (F : Nat → Nat) (w : World) (bs : List Nat) (b : Nat) : F b ≤ bump F w bs b := by
  unfold bump; split
  · exact Nat.le_max_left _ _
  · exact Nat.le_refl _
theorem ResOk.toVT {r : RS} {x : r.I} {u : Value} {q : Option (Nat × Nat)} {v : VT} {y : v.I} {bs : List Nat} (h : ResOk P F w r x u q) (hy : r.toVT x v = some y) (hb : ∀ b cap, q = some (b, cap) → b ∈ bs) :
    ∃ g, Whole v u g ∧ RepV P v (fun _ => False) (bump F w bs) w y g := by
  cases r with
  | d v' =>
    obtain ⟨_, g, hw, hr⟩ := h
    simp only [RS.toVT] at hy
    split at hy
    · rename_i e _
      subst e; have hy := Option.some.inj hy; subst hy
      exact ⟨g, hw, RepV.mono (fun _ h => h) (bump_ge F w bs) (Keeps.refl _ _ _) _ _ _ _ (fun _ _ => rfl) hr⟩
    · simp at hy
  | fresh e =>
    simp only [RS.toVT] at hy
    split at hy
    · rename_i e' _
      subst e'; have hy := Option.some.inj hy; subst hy
      refine ⟨fun _ => some u, rfl, ?_⟩
      simp only [RepV]
      refine ⟨u, rfl, ?_⟩
      simp only [RepS]
      simp only [ResOk] at h
      cases q with
      | none => obtain ⟨h0, a, hu⟩ := h; exact ⟨a, 0, by rw [hu]; simp [h0], Nat.le_of_eq h0, .inl h0⟩
      | some q =>
        obtain ⟨b, cap⟩ := q
        obtain ⟨hu, hF, hle, cs, el, hh, hs, hel⟩ := h
        refine ⟨_, cap, hu, hle, .inr ⟨b, 0, rfl, ?_, fun i hi => ?_⟩⟩
        · have h1 : rowLen w b = cs.size := by simp [rowLen, hh]
          have h2 : List.length (α := e.I) x * e.size ≤ cap * e.size := Nat.mul_le_mul_right _ hle
          unfold bump; rw [if_pos (hb b cap rfl), h1, hs]; simp; exact Nat.le_trans h2 (Nat.le_max_right _ _)
        · refine RepV.mono (fun _ h => h) (bump_ge F w bs) (Keeps.refl _ _ _) e _ _ _ (fun j hj => ?_) (hel i hi)
          simp [World.cell?, hh]
    · simp at hy
theorem toVTs_2 (r r' : RS) (rs : List RS) (x : RSs.I (r :: r' :: rs)) (v v' : VT) (vs : VTs) : RSs.toVTs (r :: r' :: rs) x (.cons v (.cons v' vs)) = match r.toVT x.1 v, RSs.toVTs (r' :: rs) x.2 (.cons v' vs) with
    | some a, some b => some (a, b)
    | _, _ => none := rfl
theorem RessOk.toVTs {bs : List Nat} : ∀ (rs : List RS) {x : RSs.I rs} {us : List Value} {qs : List (Option (Nat × Nat))} (vs : VTs) {y : vs.I}, RessOk P F w rs x us qs → RSs.toVTs rs x vs = some y → (∀ b, b ∈ blk qs → b ∈ bs) →
    RepWs P vs (fun _ => False) (bump F w bs) w y us
  | [], x, us, qs, .nil, y, h, hy, hb => by simp only [RepWs]; exact h.1
  | [], x, us, qs, .cons _ _, y, h, hy, hb => by cases hy
  | [r], x, us, qs, .nil, y, h, hy, hb => by cases hy
  | [r], x, us, qs, .cons v .nil, y, h, hy, hb => by
    obtain ⟨u, q, rfl, rfl, h⟩ := h
    obtain ⟨g, h1, h2⟩ := ResOk.toVT h hy (fun b cap e => hb b (by subst e; simp [blk]))
    simp only [RepWs]; exact ⟨u, g, rfl, h1, h2⟩
  | [r], x, us, qs, .cons v (.cons _ _), y, h, hy, hb => by cases hy
  | r :: r' :: rs, x, us, qs, .nil, y, h, hy, hb => by cases hy
  | r :: r' :: rs, x, us, qs, .cons v .nil, y, h, hy, hb => by cases hy
  | r :: r' :: rs, x, us, qs, .cons v (.cons v' vs), y, h, hy, hb => by
    obtain ⟨u, us', q, qs', rfl, rfl, h, h'⟩ := h
    rw [toVTs_2] at hy
    split at hy
    · rename_i a b ha hb'
      have hy := Option.some.inj hy; subst hy
      obtain ⟨g, h1, h2⟩ := ResOk.toVT h ha (fun b cap e => hb b (by subst e; simp [blk]))
      simp only [RepWs]
      refine ⟨u, us', g, rfl, h1, h2, RessOk.toVTs (r' :: rs) (.cons v' vs) h' hb' fun b hbb => hb b ?_⟩
      cases q with
      | none => exact hbb
      | some q => simp [blk, hbb]
    · simp at hy

theorem blk_lt {rs : List RS} : ∀ {x : RSs.I rs} {us : List Value} {qs : List (Option (Nat × Nat))}, RessOk P F w rs x us qs → ∀ b, b ∈ blk qs → b < w.heap.size := by
  have one : ∀ {r : RS} {x : r.I} {u q} (_ : ResOk P F w r x u q) b, b ∈ blk [q] → b < w.heap.size := by
    intro r x u q h b hb
    cases q with
    | none => simp [blk] at hb
    | some q =>
      obtain ⟨b', cap⟩ := q
      simp [blk] at hb; subst hb
      cases r with
      | d v => obtain ⟨h, _⟩ := h; simp at h
      | fresh e => obtain ⟨_, _, _, cs, el, hh, _⟩ := h; exact lt_of_heap hh
  induction rs with
  | nil => intro x us qs h b hb; obtain ⟨_, rfl⟩ := h; simp [blk] at hb
  | cons r rs ih =>
    cases rs with
    | nil => intro x us qs h b hb; obtain ⟨u, q, rfl, rfl, h⟩ := h; exact one h b hb
    | cons r' rs =>
      intro x us qs h b hb
      obtain ⟨u, us', q, qs', rfl, rfl, h, h'⟩ := h
      cases q with
      | none => exact ih h' b hb
      | some q =>
        simp [blk] at hb
        rcases hb with hb | hb
        · exact one h b (by simp [blk, hb])
        · exact ih h' b hb

/-- A function's literal is the function that it stands for. -/
theorem cloFn_ok {C : Tab} (hC : SoundTab P C) {f : FuncId} {caps : List Cap} {vs : Array Value} (a r : VTs) (hO : ∀ b, O b → b < w.heap.size)
    (h : All2 (VCap P st O F w) caps vs.toList) : RepS P (.fn a r) O F w (cloFn C st f caps a r) (.func (.func f) #[] vs) := by
  simp only [RepS]
  refine ⟨f, vs, rfl, fun F' w' hK hF hn x y hy args ha => ?_⟩
  unfold cloFn at hy
  split at hy
  · simp at hy
  · rename_i con hcon
    split at hy
    · simp at hy
    · rename_i z hz
      obtain ⟨y0, hy0, hy1⟩ := Option.bind_eq_some_iff.1 hy
      obtain ⟨hent, hs⟩ := hC f con hcon
      refine ⟨hent, ?_⟩
      have hv : All2 (VP P st (fun b => b < w'.heap.size) F' w') (encVTs a x ++ caps.map capPV) (args ++ vs.toList) := by
        refine All2.append (encVTs_ok a ha) (All2.imp capPV (R := VCap P st O F w) (fun c u hu => ?_) h)
        have := VCap.mono (fun b hb => Nat.lt_of_lt_of_le (hO b hb) hK.size) hF hK c u hu
        cases c with
        | loc r => exact this
        | sref cs => exact this
      have hargs := decArgs0_ok con.as hz hv
      have := hs z y0 hy0 F' w' (args ++ vs.toList) ((args ++ vs.toList).map fun _ => none) hn (by rw [blk_none]; exact List.nodup_nil) (by
        have e : (fun b => b < w'.heap.size ∧ b ∉ blk ((args ++ vs.toList).map fun _ => none)) = fun b => b < w'.heap.size := by funext b; rw [blk_none]; simp
        rw [e]; exact hargs)
      rw [blk_none] at this
      have harr : (args ++ vs.toList).toArray = args.toArray ++ vs := by simp
      rw [harr] at this
      refine Calls.mono this fun e w'' hx => ?_
      obtain ⟨us, F2, ps, he, hev, hres, _, hbl⟩ := hx
      refine ⟨us, bump F2 w'' (blk ps), he, ?_, RessOk.toVTs con.rs r hres hy1 fun b hb => hb⟩
      refine ⟨hev.os, hev.tape, hev.drawn, hev.output, hev.size, hev.block, fun b hb hm => ?_, fun b => Nat.le_trans (hev.fge b) (bump_ge _ _ _ _), fun b hb => ?_⟩
      · unfold bump
        rw [if_neg fun hmem => by have := hbl b hmem; simp at this; omega]
        exact hev.fold b hb hm
      · unfold bump
        rw [if_neg fun hmem => by have := blk_lt hres b hmem; omega]
        exact hev.fnew b hb

theorem toSc_ok {C : Tab} (hC : SoundTab P C) (hO : ∀ b, O b → b < w.heap.size) {s : Sc} {p : PC} {x : s.I} {v : Value} (h : toSc C st s p = some x) (hv : VC P st O F w p v) : RepS P s O F w x v := by
  unfold toSc at h
  split at h
  · have h := Option.some.inj h; subst h
    obtain ⟨vs, rfl, ha⟩ := hv
    exact cloFn_ok hC _ _ hO ha
  · refine toSc0_ok h ?_
    cases p with
    | fn f caps => trivial
    | _ => exact hv
theorem ofPCs_ok {C : Tab} (hC : SoundTab P C) (hO : ∀ b, O b → b < w.heap.size) : ∀ (t : Scs) {ps : List PC} {x : t.I} {us : List Value}, ofPCs C st t ps = some x → All2 (VC P st O F w) ps us → RepCs P t O F w x (fun j => us[j]?)
  | .nil, _, _, _, _, _ => by simp only [RepCs]
  | .cons s .nil, [], _, _, h, _ => by rw [ofPCs_e] at h; cases h
  | .cons s .nil, p :: ps, x, [], _, hv => hv.elim
  | .cons s .nil, p :: ps, x, u :: us, h, hv => by
    rw [ofPCs_1] at h
    simp only [RepCs]
    exact ⟨u, by simp, toSc_ok hC hO h hv.1⟩
  | .cons s (.cons s' r), [], _, _, h, _ => by rw [ofPCs_e] at h; cases h
  | .cons s (.cons s' r), p :: ps, x, [], _, hv => hv.elim
  | .cons s (.cons s' r), p :: ps, x, u :: us, h, hv => by
    rw [ofPCs_2] at h
    split at h
    · rename_i a b ha hb
      have h := Option.some.inj h; subst h
      simp only [RepCs]
      exact ⟨⟨u, by simp, toSc_ok hC hO ha hv.1⟩, by simpa using ofPCs_ok hC hO (.cons s' r) hb hv.2⟩
    · simp at h
theorem toVT_ok {C : Tab} (hC : SoundTab P C) (hO : ∀ b, O b → b < w.heap.size) {t : VT} {p : PV} {x : t.I} {u : Value} (h : toVT C st t p = some x) (hv : VP P st O F w p u) : ∃ g, Whole t u g ∧ RepV P t O F w x g := by
  cases t with
  | sc s =>
    cases p with
    | s p =>
      have h : toSc C st s p = some x := h
      refine ⟨_, rfl, ?_⟩
      simp only [RepV]
      refine ⟨u, rfl, toSc_ok hC hO h ?_⟩
      cases p with
      | loc r off => cases s <;> cases h
      | sref cs => cases s <;> cases h
      | eptr a b c d => cases s <;> cases h
      | _ => exact hv
    | agg ps => cases h
    | tup vs => cases h
  | ag cs =>
    cases p with
    | s p => cases h
    | tup vs => cases h
    | agg ps =>
      have h : cond (Nat.beq ps.length cs.size) (ofPCs C st cs ps) none = some x := h
      obtain ⟨cells, rfl, ha⟩ := hv
      cases hl : Nat.beq ps.length cs.size with
      | false => rw [hl] at h; cases h
      | true =>
        rw [hl] at h
        have h : ofPCs C st cs ps = some x := h
        refine ⟨_, ⟨cells, rfl, ?_, rfl⟩, ?_⟩
        · have := All2.length ha
          simp at this; rw [← this]; exact Nat.eq_of_beq_eq_true hl
        · simp only [RepV]
          simpa using ofPCs_ok hC hO cs h ha
theorem toVTs_cc (C : Tab) (st : St) (v v' : VT) (r : VTs) (p : PV) (ps : List PV) : toVTs C st (.cons v (.cons v' r)) (p :: ps) = match toVT C st v p, toVTs C st (.cons v' r) ps with
    | some a, some b => some (a, b)
    | _, _ => none := rfl
theorem toVTs_ok {C : Tab} (hC : SoundTab P C) (hO : ∀ b, O b → b < w.heap.size) : ∀ (vs : VTs) {ps : List PV} {x : vs.I} {us : List Value}, toVTs C st vs ps = some x → All2 (VP P st O F w) ps us → RepWs P vs O F w x us
  | .nil, [], _, [], _, _ => by simp only [RepWs]
  | .nil, [], _, _ :: _, _, h => h.elim
  | .nil, _ :: _, _, _, h, _ => by cases h
  | .cons v .nil, [], _, _, h, _ => by cases h
  | .cons v .nil, [p], x, [], _, hv => hv.elim
  | .cons v .nil, [p], x, [u], h, hv => by
    obtain ⟨g, h1, h2⟩ := toVT_ok hC hO (show toVT C st v p = some x from h) hv.1
    simp only [RepWs]; exact ⟨u, g, rfl, h1, h2⟩
  | .cons v .nil, [p], x, _ :: _ :: _, _, hv => hv.2.elim
  | .cons v .nil, _ :: _ :: _, x, _, h, _ => by cases h
  | .cons v (.cons v' r), [], _, _, h, _ => by cases h
  | .cons v (.cons v' r), p :: ps, x, [], _, hv => hv.elim
  | .cons v (.cons v' r), p :: ps, x, u :: us, h, hv => by
    rw [toVTs_cc] at h
    split at h
    · rename_i a b ha hb
      have h := Option.some.inj h; subst h
      obtain ⟨g, h1, h2⟩ := toVT_ok hC hO ha hv.1
      simp only [RepWs]
      exact ⟨u, us, g, rfl, h1, h2, toVTs_ok hC hO (.cons v' r) hb hv.2⟩
    · simp at h
end
end Go.PgAM
