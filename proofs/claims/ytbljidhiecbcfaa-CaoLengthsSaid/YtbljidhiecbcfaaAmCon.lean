/-
  A call by contract, from the machine's state and back to it.
-/
import Derived.Test.YtbljidhiecbcfaaAmArg
namespace Go.PgAM
open Go Go.RowKit
set_option linter.unusedVariables false
variable {P : Program} {Z : At0} {X X' : Cx} {st st' : St} {a : Act} {w w' : World}

section view
variable {O' : Nat → Prop} {F1 : Nat → Nat} {ts : List Nat}
/-- What is handed on of a state: the tokens that are shown, wholly frozen. -/
structure Shown (X : Cx) (st : St) (O' : Nat → Prop) (F1 : Nat → Nat) (ts : List Nat) : Prop where
  O : ∀ b, X.O b → O' b
  F : ∀ b, X.F b ≤ F1 b
  rows : ∀ r cells, st.row r = some cells → O' (X.ρ r)
  cov : ∀ t, t ∈ ts → ∀ B b cap, look st.b t = some B → X.β t = some (b, cap) → B.xs.length * B.e.size ≤ F1 b
theorem Rel.vc0 (h : Rel P Z X st a w) (s : Shown X st O' F1 ts) {p : PC} {v : Value} (hv : RelC P X st.b w p v) (ht : ∀ t, p = .own t → t ∈ ts) : VC0 P st O' F1 w p v := by
  cases p with
  | d c => exact RepS.mono s.O s.F (Keeps.refl _ _ _) _ _ _ hv
  | own tok =>
    intro B hB
    obtain ⟨B', hB', hs⟩ := hv
    have e : B' = B := Option.some.inj (hB'.symm.trans hB)
    subst e
    exact RepS.mono s.O (fun _ => Nat.le_refl _) (Keeps.refl _ _ _) _ _ _ (h.snap s.F hB hs fun b cap hb => s.cov tok (ht tok rfl) B' b cap hB hb)
  | _ => trivial
def ownToks (cells : List PC) : List Nat := cells.flatMap fun | .own t => [t] | _ => []
theorem mem_ownToks {cells : List PC} {t : Nat} (h : PC.own t ∈ cells) : t ∈ ownToks cells := by
  unfold ownToks
  rw [List.mem_flatMap]
  exact ⟨_, h, by simp⟩
theorem Rel.vrow (h : Rel P Z X st a w) (s : Shown X st O' F1 ts) {r off : Nat} {v : Value} (hv : v = .pointer (some ⟨X.ρ r, off, none⟩)) (ht : ∀ t, t ∈ ownToks ((st.row r).getD []) → t ∈ ts) : VRow P st O' F1 w r off v := by
  refine ⟨_, hv, fun cells hr => ?_⟩
  obtain ⟨_, _, cs, el, hh, ha⟩ := h.r r cells hr
  refine ⟨s.rows r cells hr, cs, el, hh, ha.imp_mem fun p u hp hx => h.vc0 s hx.1 fun t e => ht t ?_⟩
  rw [hr]; subst e; exact mem_ownToks hp
theorem Rel.vcap (h : Rel P Z X st a w) (s : Shown X st O' F1 ts) {c : Cap} {v : Value} (hv : RelCap P X w c v) (ht : ∀ r, c = .loc r → ∀ t, t ∈ ownToks ((st.row r).getD []) → t ∈ ts) : VCap P st O' F1 w c v := by
  cases c with
  | loc r => exact h.vrow s hv (ht r rfl)
  | sref cs => exact SrefAt.mono s.O s.F (Keeps.refl _ _ _) hv
theorem Rel.vc (h : Rel P Z X st a w) (s : Shown X st O' F1 ts) {p : PC} {v : Value} (hv : RelC P X st.b w p v) (ht : ∀ t, t ∈ p.toks st → t ∈ ts) : VC P st O' F1 w p v := by
  cases p with
  | fn f caps =>
    obtain ⟨vs, hv, ha⟩ := hv
    refine ⟨vs, hv, ha.imp_mem fun c u hc hx => h.vcap s hx fun r e t htr => ht t ?_⟩
    subst e
    simp only [PC.toks, List.mem_flatMap]
    exact ⟨_, hc, htr⟩
  | own tok => exact h.vc0 s hv fun t e => by cases e; exact ht tok (by simp [PC.toks])
  | d c => exact h.vc0 s hv fun t e => by cases e
  | _ => trivial
theorem Rel.vp (h : Rel P Z X st a w) (s : Shown X st O' F1 ts) {pv : PV} {v : Value} (hv : RelP P X st.b w pv v) (ht : ∀ t, t ∈ pv.toks st → t ∈ ts)
    (hp : ∀ t, t ∈ pv.ptrs → ∀ B b cap, look st.b t = some B → X.β t = some (b, cap) → O' b) : VP P st O' F1 w pv v := by
  cases pv with
  | tup vs => trivial
  | agg ps =>
    obtain ⟨cells, rfl, ha⟩ := hv
    refine ⟨cells, rfl, ha.imp_mem fun p u hm hx => h.vc s hx.1 fun t htp => ht t ?_⟩
    simp only [PV.toks, List.mem_flatMap]
    exact ⟨p, hm, htp⟩
  | s p =>
    cases p with
    | loc r off => exact h.vrow s hv fun t htr => ht t htr
    | sref cs => exact SrefAt.mono s.O s.F (Keeps.refl _ _ _) hv
    | eptr tok i off cs =>
      obtain ⟨B, b, cap, hB, hb, _, _, _, hv, hc⟩ := hv
      refine ⟨b, _, hv, .inl (hp tok (by simp [PV.ptrs]) B b cap hB hb), fun j c hj => ?_⟩
      obtain ⟨u, hu, hs⟩ := hc j c hj
      exact ⟨u, hu, RepS.mono s.O s.F (Keeps.refl _ _ _) _ _ _ hs⟩
    | fn f caps => exact h.vc (p := .fn f caps) s hv ht
    | own tok => exact h.vc (p := .own tok) s hv ht
    | d c => exact h.vc (p := .d c) s hv ht
    | opre _ _ => trivial
    | osuf _ _ => trivial
    | undef => trivial
    | dead => trivial
end view

def mvQs (β : Nat → Option (Nat × Nat)) : List AS → List PV → List (Option (Nat × Nat))
  | a :: as, v :: vs => (mvTok a v).bind β :: mvQs β as vs
  | _, _ => []
theorem mem_blk : ∀ {qs : List (Option (Nat × Nat))} {b : Nat}, b ∈ blk qs ↔ ∃ cap, some (b, cap) ∈ qs
  | [], b => by simp [blk]
  | none :: l, b => by simp only [blk]; rw [mem_blk (qs := l)]; simp
  | some (b', c) :: l, b => by
    simp only [blk, List.mem_cons]; rw [mem_blk (qs := l)]
    constructor
    · rintro (rfl | ⟨cap, h⟩)
      · exact ⟨c, .inl rfl⟩
      · exact ⟨cap, .inr h⟩
    · rintro ⟨cap, h | h⟩
      · cases h; exact .inl rfl
      · exact .inr ⟨cap, h⟩
theorem mvQs_mem {β : Nat → Option (Nat × Nat)} {q : Nat × Nat} : ∀ {as : List AS} {vs : List PV}, some q ∈ mvQs β as vs → ∃ tok, tok ∈ mvToks as vs ∧ β tok = some q
  | [], [], h => by simp [mvQs] at h
  | [], _ :: _, h => by simp [mvQs] at h
  | _ :: _, [], h => by simp [mvQs] at h
  | a :: as, v :: vs, h => by
    simp only [mvQs, List.mem_cons] at h
    simp only [mvToks, List.mem_append]
    rcases h with h | h
    · cases e : mvTok a v with
      | none => simp [e] at h
      | some t => simp [e] at h; exact ⟨t, .inl (by simp), h.symm⟩
    · obtain ⟨tok, h1, h2⟩ := mvQs_mem h
      exact ⟨tok, .inr h1, h2⟩
theorem mvTok_some {a : AS} {v : PV} {t : Nat} (h : mvTok a v = some t) : ∃ e, a = .mv e ∧ v = .s (.own t) := by
  unfold mvTok at h
  split at h
  · cases h; exact ⟨_, rfl, rfl⟩
  · cases h
theorem decArg_own {C : Tab} {e : VT} {t : Nat} {x : List e.I} (h : decArg C st (.mv e) (.s (.own t)) = some x) : look st.b t = some ⟨true, e, x⟩ := by
  have hx : (match look st.b t with
    | some ⟨true, e', xs⟩ => castL e' e xs
    | _ => none) = some x := h
  split at hx
  · rename_i e' xs hB
    obtain ⟨p, hp⟩ := castL_some hx
    subst p; rw [hB]; simp at hp; rw [hp]
  · cases hx
theorem decArgs_cons {C : Tab} {a : AS} {as : List AS} {v : PV} {vs : List PV} {z : ASs.I (a :: as)} (h : decArgs C st (a :: as) (v :: vs) = some z) : decArg C st a v = some z.1 ∧ decArgs C st as vs = some z.2 := by
  simp only [decArgs] at h
  split at h
  · rename_i x y hx hy
    have h := Option.some.inj h
    subst h; exact ⟨hx, hy⟩
  · cases h
/-- All tokens that are given away are there, wholly one's own. -/
theorem decArgs_mv {C : Tab} : ∀ {as : List AS} {vs : List PV} {z : ASs.I as}, decArgs C st as vs = some z → ∀ t, t ∈ mvToks as vs → ∃ B, look st.b t = some B ∧ B.x = true
  | [], [], _, _, t, ht => by simp [mvToks] at ht
  | [], _ :: _, _, _, t, ht => by simp [mvToks] at ht
  | _ :: _, [], _, _, t, ht => by simp [mvToks] at ht
  | a :: as, v :: vs, z, h, t, ht => by
    obtain ⟨h1, h2⟩ := decArgs_cons h
    simp only [mvToks, List.mem_append] at ht
    rcases ht with ht | ht
    · simp at ht
      obtain ⟨e, rfl, rfl⟩ := mvTok_some ht
      exact ⟨_, decArg_own h1, rfl⟩
    · exact decArgs_mv h2 t ht
theorem decArg_ok {C : Tab} (hC : SoundTab P C) {O : Nat → Prop} {F : Nat → Nat} (hO : ∀ b, O b → b < w.heap.size) {c : AS} {p : PV} {x : c.I} {v : Value}
    (h : decArg C st c p = some x) (hm : mvTok c p = none) (hv : VP P st O F w p v) : ArgOk P O F w c x v none := by
  cases c with
  | d t =>
    obtain ⟨g, h1, h2⟩ := toVT_ok hC hO (show toVT C st t p = some x from h) hv
    exact ⟨rfl, g, h1, h2⟩
  | mv e =>
    cases p with
    | s p => cases p with
      | own t => cases hm
      | _ => cases h
    | _ => cases h
  | ref cs =>
    cases p with
    | agg ps => cases h
    | tup vs => cases h
    | s p =>
      cases p with
      | sref l => exact ⟨rfl, SrefAt.ofDC (show ScsofDC cs l = some x from h) hv⟩
      | eptr a b c l => exact ⟨rfl, SrefAt.ofDC (show ScsofDC cs l = some x from h) hv⟩
      | loc r off =>
        have h : (match st.row r with
          | some cells => ofPCs0 st cs (cells.drop off)
          | none => none) = some x := h
        split at h
        · rename_i cells hr
          exact ⟨rfl, VRow.sref hv hr h⟩
        · cases h
      | _ => cases h
theorem decArgs_ok {C : Tab} (hC : SoundTab P C) {O : Nat → Prop} {F : Nat → Nat} (hO : ∀ b, O b → b < w.heap.size) (β : Nat → Option (Nat × Nat)) :
    ∀ {as : List AS} {vs : List PV} {us : List Value} {z : ASs.I as}, decArgs C st as vs = some z →
      (∀ t, t ∈ mvToks as vs → ∀ B v, look st.b t = some B → SlAt β t B.xs.length v → BufVal P O F w B.e B.xs v (β t)) →
      (∀ t, t ∈ keptToks st as vs → t ∈ keptToks st as vs) →
      All2 (RelP P X st.b w) vs us → (∀ pv u, pv ∈ vs → RelP P X st.b w pv u → (∀ t, t ∈ pv.toks st → t ∈ keptToks st as vs) → VP P st O F w pv u) → X.β = β → ArgsOk P O F w as z us (mvQs β as vs)
  | [], [], [], z, h, _, _, _, _, _ => ⟨rfl, rfl⟩
  | [], [], _ :: _, z, h, _, _, hr, _, _ => hr.elim
  | [], _ :: _, _, z, h, _, _, _, _, _ => by cases h
  | _ :: _, [], _, z, h, _, _, _, _, _ => by cases h
  | c :: as, p :: vs, [], z, h, _, _, hr, _, _ => hr.elim
  | c :: as, p :: vs, u :: us, z, h, hm, _, hr, hk, hβ => by
    obtain ⟨h1, h2⟩ := decArgs_cons h
    refine ⟨u, us, _, _, rfl, rfl, ?_, decArgs_ok hC hO β h2 (fun t ht => hm t (by simp [mvToks, ht])) (fun _ h => h) hr.2 (fun pv u hp hx ht => hk pv u (by simp [hp]) hx fun t htt => by simp [keptToks, ht t htt]) hβ⟩
    cases e : mvTok c p with
    | none =>
      exact decArg_ok hC hO h1 e (hk p u (by simp) hr.1 fun t ht => by simp [keptToks, e, ht])
    | some t =>
      obtain ⟨e', rfl, rfl⟩ := mvTok_some e
      obtain ⟨B, hB, hs⟩ := hr.1
      have hB' := decArg_own h1
      rw [hB'] at hB; cases hB
      rw [hβ] at hs
      exact hm t (by simp [mvToks, e]) _ u hB' hs
end Go.PgAM
