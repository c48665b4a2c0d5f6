/-
  A call of a function by its contract.
-/
import Derived.Test.YtbljidhiecbcfaaAmRet
namespace Go.PgAM
open Go Go.RowKit
set_option linter.unusedVariables false
variable {P : Program} {Z : At0} {X X' : Cx} {st st' : St} {a a' : Act} {w w' w'' : World}

/-- All that there was stays. -/
structure Ext (w w' : World) : Prop where
  os : w'.os = w.os
  tape : w'.tape = w.tape
  drawn : w.drawn ≤ w'.drawn
  output : w'.output = w.output
  size : w.heap.size ≤ w'.heap.size
  block : ∀ b, b < w.heap.size → w'.heap[b]? = w.heap[b]?
theorem Ext.refl (w : World) : Ext w w := ⟨rfl, rfl, Nat.le_refl _, rfl, Nat.le_refl _, fun _ _ => rfl⟩
theorem Ext.trans (h : Ext w w') (k : Ext w' w'') : Ext w w'' :=
  ⟨k.os.trans h.os, k.tape.trans h.tape, Nat.le_trans h.drawn k.drawn, k.output.trans h.output, Nat.le_trans h.size k.size, fun b hb => (k.block b (Nat.lt_of_lt_of_le hb h.size)).trans (h.block b hb)⟩
theorem Evo.ext {F F' : Nat → Nat} (e : Evo [] F F' w w') : Ext w w' := ⟨e.os, e.tape, e.drawn, e.output, e.size, fun b hb => e.block b hb (by simp)⟩
theorem Ext.evo (e : Ext w w') {F : Nat → Nat} (hF : ∀ b, w.heap.size ≤ b → F b = 0) : Evo [] F F w w' :=
  ⟨e.os, e.tape, e.drawn, e.output, e.size, fun b hb _ => e.block b hb, fun _ _ _ => rfl, fun _ => Nat.le_refl _, fun b hb => hF b (Nat.le_trans e.size hb)⟩
theorem alloc_ext (w : World) (o : Obj) : Ext w (w.alloc o) := (alloc_evo (fun _ => 0) w o fun _ _ => rfl).ext

/-- What an operation that writes nothing old brings about. -/
structure Step (X X' : Cx) (st st' : St) (w w' : World) (o : Option Nat) : Prop where
  ext : Ext w w'
  F : ∀ b, b < w.heap.size → X'.F b = X.F b ∨ ∃ t B cap, look st.b t = some B ∧ X.β t = some (b, cap)
  Fge : ∀ b, X.F b ≤ X'.F b
  ρ : ∀ r, o ≠ some r → X'.ρ r = X.ρ r
  ρn : ∀ r, X'.ρ r = X.ρ r ∨ w.heap.size ≤ X'.ρ r
  β : ∀ t, (∀ d, o = some d → tokOf d t = false) → X'.β t = X.β t ∧ ∀ B, look st.b t = some B → ∃ x, look st'.b t = some { B with x := x }
  βn : (∀ d t, o = some d → tokOf d t = true → look st.b t = none) → ∀ d t B b cap, o = some d → tokOf d t = true → look st'.b t = some B → X'.β t = some (b, cap) → w.heap.size ≤ b
theorem Step.same {o : Option Nat} (v : PV) : Step X X st (st.setT o v) w w o := by
  have hb : (st.setT o v).b = st.b := by cases o <;> rfl
  refine ⟨Ext.refl _, fun _ _ => .inl rfl, fun _ => Nat.le_refl _, fun _ _ => rfl, fun _ => .inl rfl, fun t _ => ⟨rfl, fun B hB => ⟨B.x, by rw [hb]; exact hB⟩⟩, fun hf d t B b cap e ht hB _ => ?_⟩
  rw [hb, hf d t e ht] at hB; cases hB

theorem share_row (r : Nat) : ∀ (ts : List Nat) (st : St), (st.share ts).row r = st.row r
  | [], st => rfl
  | t :: ts, st => by
    simp only [St.share]
    rw [share_row r ts]
    cases look st.b t <;> rfl
theorem share_t : ∀ (ts : List Nat) (st : St), (st.share ts).t = st.t
  | [], st => rfl
  | t :: ts, st => by
    simp only [St.share]
    rw [share_t ts]
    cases look st.b t <;> rfl
theorem share_look : ∀ (ts : List Nat) (st : St) (t : Nat) (B : Buf), look st.b t = some B → ∃ x, look (st.share ts).b t = some { B with x := x } ∧ (t ∉ ts → x = B.x)
  | [], st, t, B, h => ⟨B.x, h, fun _ => rfl⟩
  | t' :: ts, st, t, B, h => by
    simp only [St.share]
    cases e : look st.b t' with
    | none =>
      obtain ⟨x, h1, h2⟩ := share_look ts st t B h
      exact ⟨x, h1, fun hn => h2 fun hm => hn (by simp [hm])⟩
    | some B' =>
      by_cases e2 : t' = t
      · subst e2
        have : B' = B := Option.some.inj (e.symm.trans h)
        subst this
        obtain ⟨x, h1, _⟩ := share_look ts { st with b := Go.PgAM.put st.b t' { B' with x := false } } t' { B' with x := false } (by simp [Go.PgAM.put, look_cons])
        exact ⟨x, h1, fun hn => absurd (by simp) hn⟩
      · obtain ⟨x, h1, h2⟩ := share_look ts { st with b := Go.PgAM.put st.b t' { B' with x := false } } t B (by rw [Go.PgAM.put, look_cons, if_neg e2]; exact h)
        exact ⟨x, h1, fun hn => h2 fun hm => hn (by simp [hm])⟩
theorem share_none : ∀ (ts : List Nat) (st : St) (t : Nat), look st.b t = none → look (st.share ts).b t = none
  | [], st, t, h => h
  | t' :: ts, st, t, h => by
    simp only [St.share]
    cases e : look st.b t' with
    | none => exact share_none ts st t h
    | some B' =>
      refine share_none ts _ t ?_
      show look ((t', { B' with x := false }) :: st.b) t = none
      rw [look_cons]
      by_cases e2 : t' = t
      · subst e2; rw [h] at e; cases e
      · rw [if_neg e2]; exact h
theorem share_some {ts : List Nat} {st : St} {t : Nat} {B : Buf} (h : look (st.share ts).b t = some B) : ∃ x, look st.b t = some { B with x := x } := by
  cases e : look st.b t with
  | none => rw [share_none ts st t e] at h; cases h
  | some B' =>
    obtain ⟨x, h1, _⟩ := share_look ts st t B' e
    rw [h1] at h
    have := Option.some.inj h
    subst this
    exact ⟨B'.x, rfl⟩

theorem memb_iff : ∀ {l : List Nat} {n : Nat}, memb l n = true ↔ n ∈ l
  | [], n => by simp [memb]
  | m :: l, n => by
    simp only [memb, List.mem_cons]
    by_cases e : m = n
    · subst e; simp
    · have : Nat.beq m n = false := by rw [Bool.eq_false_iff]; exact fun h' => e (Nat.eq_of_beq_eq_true h')
      simp only [this, cond_false]
      rw [memb_iff]
      constructor
      · exact .inr
      · rintro (h | h)
        · exact absurd h.symm e
        · exact h
theorem memb_false {l : List Nat} {n : Nat} (h : memb l n = false) : n ∉ l := fun hm => by rw [memb_iff.2 hm] at h; cases h
theorem apartB_ok {ts : List Nat} : ∀ {ms : List Nat}, apartB ts ms = true → ms.Nodup ∧ ∀ m, m ∈ ms → m ∉ ts
  | [], _ => ⟨List.nodup_nil, by simp⟩
  | m :: ms, h => by
    simp only [apartB] at h
    cases h1 : memb ts m with
    | true => simp [h1] at h
    | false =>
      cases h2 : memb ms m with
      | true => simp [h1, h2] at h
      | false =>
        simp only [h1, h2, cond_false] at h
        obtain ⟨k1, k2⟩ := apartB_ok h
        refine ⟨List.nodup_cons.2 ⟨memb_false h2, k1⟩, fun m' hm => ?_⟩
        rcases List.mem_cons.1 hm with rfl | hm
        · exact memb_false h1
        · exact k2 m' hm
theorem mvQs_nodup {β : Nat → Option (Nat × Nat)} : ∀ {as : List AS} {vs : List PV}, (mvToks as vs).Nodup →
    (∀ t t' b cap cap', t ∈ mvToks as vs → t' ∈ mvToks as vs → β t = some (b, cap) → β t' = some (b, cap') → t = t') → (blk (mvQs β as vs)).Nodup
  | [], [], _, _ => by simp [mvQs, blk]
  | [], _ :: _, _, _ => by simp [mvQs, blk]
  | _ :: _, [], _, _ => by simp [mvQs, blk]
  | a :: as, v :: vs, h, hi => by
    simp only [mvQs]
    cases e : mvTok a v with
    | none =>
      simp only [mvToks, e, Option.toList_none, List.nil_append] at h hi
      exact mvQs_nodup h hi
    | some t =>
      simp only [mvToks, e, Option.toList_some, List.singleton_append, List.nodup_cons] at h hi
      have ih := mvQs_nodup h.2 fun t t' b cap cap' h1 h2 => hi t t' b cap cap' (by simp [h1]) (by simp [h2])
      simp only [Option.bind_some]
      cases e2 : β t with
      | none => exact ih
      | some q =>
        obtain ⟨b, cap⟩ := q
        simp only [blk, List.nodup_cons]
        refine ⟨fun hm => ?_, ih⟩
        obtain ⟨cap', hm⟩ := mem_blk.1 hm
        obtain ⟨t', h1, h2⟩ := mvQs_mem hm
        have := hi t t' b cap cap' (by simp) (by simp [h1]) e2 h2
        subst this; exact h.1 h1

section nosl
variable {O O' : Nat → Prop} {F F' : Nat → Nat}
mutual
theorem RepS.noSl : (s : Sc) → s.hasSl = false → {x : s.I} → {v : Value} → RepS P s O F w x v → RepS P s O' F' w' x v
  | .int k, _, x, v, h => by simpa only [RepS] using h
  | .bool, _, x, v, h => by simpa only [RepS] using h
  | .str, _, x, v, h => by simpa only [RepS] using h
  | .sl e, hs, x, v, h => by simp [Sc.hasSl] at hs
  | .fn a r, hs, x, v, h => by simp [Sc.hasSl] at hs
theorem RepV.noSl : (t : VT) → t.hasSl = false → {x : t.I} → {g : Nat → Option Value} → RepV P t O F w x g → RepV P t O' F' w' x g
  | .sc s, hs, x, g, h => by
    simp only [RepV] at h ⊢
    obtain ⟨u, hu, hr⟩ := h
    exact ⟨u, hu, RepS.noSl s (by simpa [VT.hasSl] using hs) hr⟩
  | .ag cs, hs, x, g, h => by
    simp only [RepV] at h ⊢
    exact RepCs.noSl cs (by simpa [VT.hasSl] using hs) h
theorem RepCs.noSl : (t : Scs) → t.hasSl = false → {x : t.I} → {g : Nat → Option Value} → RepCs P t O F w x g → RepCs P t O' F' w' x g
  | .nil, hs, x, g, h => by simp only [RepCs]
  | .cons s .nil, hs, x, g, h => by
    simp only [RepCs] at h ⊢
    simp only [Scs.hasSl, Bool.or_false] at hs
    obtain ⟨u, hu, hr⟩ := h
    exact ⟨u, hu, RepS.noSl s hs hr⟩
  | .cons s (.cons s' r), hs, x, g, h => by
    simp only [RepCs] at h ⊢
    have hs1 : s.hasSl = false ∧ (Scs.cons s' r).hasSl = false := by
      rw [Scs.hasSl] at hs; simpa using hs
    obtain ⟨⟨u, hu, hr⟩, h2⟩ := h
    exact ⟨⟨u, hu, RepS.noSl s hs1.1 hr⟩, RepCs.noSl (.cons s' r) hs1.2 h2⟩
end
theorem ResOk.noSl {r : RS} (hs : r.hasSl = false) {x : r.I} {u : Value} {q : Option (Nat × Nat)} (hF : ∀ b cap, q = some (b, cap) → F' b = F b) (h : ResOk P F w r x u q) : ResOk P F' w r x u q := by
  cases r with
  | d v =>
    obtain ⟨h1, g, h2, h3⟩ := h
    exact ⟨h1, g, h2, RepV.noSl v hs h3⟩
  | fresh e =>
    cases q with
    | none => exact h
    | some q =>
      obtain ⟨b, cap⟩ := q
      obtain ⟨h1, h2, h3, cs, el, h4, h5, h6⟩ := h
      exact ⟨h1, (hF b cap rfl).trans h2, h3, cs, el, h4, h5, fun i hi => RepV.noSl e hs (h6 i hi)⟩
theorem RessOk.noSl : ∀ {rs : List RS}, rs.any RS.hasSl = false → ∀ {x : RSs.I rs} {us : List Value} {qs : List (Option (Nat × Nat))}, (∀ b, b ∈ blk qs → F' b = F b) → RessOk P F w rs x us qs → RessOk P F' w rs x us qs
  | [], _, x, us, qs, _, h => h
  | [r], hs, x, us, qs, hF, h => by
    obtain ⟨u, q, rfl, rfl, h⟩ := h
    exact ⟨u, q, rfl, rfl, ResOk.noSl (by simpa using hs) (fun b cap e => hF b (by subst e; simp [blk])) h⟩
  | r :: r' :: rs, hs, x, us, qs, hF, h => by
    obtain ⟨u, us', q, qs', rfl, rfl, h, h'⟩ := h
    have hs : r.hasSl = false ∧ (r' :: rs).any RS.hasSl = false := by simpa using hs
    exact ⟨u, us', q, qs', rfl, rfl, ResOk.noSl hs.1 (fun b cap e => hF b (by subst e; simp [blk])) h, RessOk.noSl hs.2 (fun b hb => hF b (by
      cases q with
      | none => exact hb
      | some q => simp [blk, hb])) h'⟩
end nosl

theorem Shown.of_call (h : Rel P Z X st a w) {as : List AS} {args : List PV} {C : Tab} {z : ASs.I as} (hz : decArgs C st as args = some z)
    (hap : apartB (args.flatMap PV.ptrs ++ keptToks st as args) (mvToks as args) = true) {F1 : Nat → Nat} (f1 : ∀ b, X.F b ≤ F1 b)
    (f3 : ∀ t B b cap, t ∈ keptToks st as args → look st.b t = some B → X.β t = some (b, cap) → B.xs.length * B.e.size ≤ F1 b) :
    Shown X st (fun b => b < w.heap.size ∧ b ∉ blk (mvQs X.β as args)) F1 (keptToks st as args) ∧ (blk (mvQs X.β as args)).Nodup ∧
      (∀ b, b ∈ blk (mvQs X.β as args) → ∃ tok B cap, tok ∈ mvToks as args ∧ X.β tok = some (b, cap) ∧ look st.b tok = some B ∧ B.x = true) := by
  obtain ⟨n1, n2⟩ := apartB_ok hap
  have hq : ∀ b, b ∈ blk (mvQs X.β as args) → ∃ tok B cap, tok ∈ mvToks as args ∧ X.β tok = some (b, cap) ∧ look st.b tok = some B ∧ B.x = true := by
    intro b hb
    obtain ⟨cap, hm⟩ := mem_blk.1 hb
    obtain ⟨tok, h1, h2⟩ := mvQs_mem hm
    obtain ⟨B, hB, hx⟩ := decArgs_mv hz tok h1
    exact ⟨tok, B, cap, h1, h2, hB, hx⟩
  refine ⟨⟨fun b hb => ⟨h.oldO b hb, fun hm => ?_⟩, f1, fun r cells hr => ⟨h.row_lt hr, fun hm => ?_⟩, fun t ht B b cap hB hb => f3 t B b cap ht hB hb⟩, ?_, hq⟩
  · obtain ⟨tok, B, cap, h1, h2, hB, hx⟩ := hq b hm
    have := h.b tok B hB
    simp only [BufOk, h2] at this
    exact this.1 hb
  · obtain ⟨tok, B, cap, h1, h2, hB, hx⟩ := hq _ hm
    exact h.rb r cells tok B _ cap hr hB h2 rfl
  · refine mvQs_nodup n1 fun t t' b cap cap' h1 h2 hb hb' => ?_
    obtain ⟨B, hB, _⟩ := decArgs_mv hz t h1
    obtain ⟨B', hB', _⟩ := decArgs_mv hz t' h2
    rcases Nat.decEq t t' with hne | e
    · exact absurd rfl (h.bb t t' B B' b cap b cap' hB hB' hb hb' hne)
    · exact e

theorem noMv_moved : ∀ {as : List AS}, as.any AS.isMv = false → ∀ (args : List PV), mvToks as args = [] ∧ ∀ s : St, s.moved as args = s
  | [], _, args => by cases args <;> exact ⟨rfl, fun _ => rfl⟩
  | c :: as, h, [] => ⟨rfl, fun _ => rfl⟩
  | c :: as, h, v :: vs => by
    have hnm : c.isMv = false ∧ as.any AS.isMv = false := by simpa using h
    have e : mvTok c v = none := by
      cases c with
      | mv e => cases hnm.1
      | d _ => rfl
      | ref _ => rfl
    obtain ⟨i1, i2⟩ := noMv_moved hnm.2 vs
    exact ⟨by simp [mvToks, e, i1], fun s => by simp only [St.moved, e]; exact i2 s⟩
theorem tokOf_res {d t : Nat} {rs : List RS} (h1 : RSs.tok d rs ≤ t) (h2 : t < RSs.tok d rs + rs.length) (h3 : rs.length < 400) : tokOf d t = true := by
  have one : t = d → tokOf d t = true := fun e => by subst e; simp [tokOf]
  have more : t / 1000 = d + 1 → tokOf d t = true := fun e => by
    unfold tokOf
    cases Nat.beq t d with
    | true => rfl
    | false => simp [e]
  match rs, h1, h2, h3 with
  | [], h1, h2, h3 => simp at h2; omega
  | [_], h1, h2, h3 => simp only [RSs.tok, List.length_singleton] at h1 h2; exact one (by omega)
  | _ :: _ :: _, h1, h2, h3 => simp only [RSs.tok] at h1 h2; exact more (by omega)

/-- The call itself. -/
theorem Rel.call (h : Rel P Z X st a w) {C : Tab} (hC : SoundTab P C) {f : FuncId} {con : Con} (hcon : SoundCon P f con) {args : List PV} {us : List Value} (hargs : All2 (RelP P X st.b w) args us)
    {z : ASs.I con.as} (hz : decArgs C st con.as args = some z) (hap : apartB (args.flatMap PV.ptrs ++ keptToks st con.as args) (mvToks con.as args) = true) {y : RSs.I con.rs} (hy : con.f z = some y) {dst : Option Nat}
    (hd : ∀ n, dst = some n → Z.ok n) (hlen : con.rs.length < 400) {R : Ending → World → Prop}
    (hR : ∀ v X' w', Rel P Z X' (((cond (con.rs.any RS.hasSl) (st.share (keptToks st con.as args)) st).moved con.as args).results dst con.rs y) (a.put dst v) w' →
      (con.as.any AS.isMv = false → Step X X' st (((cond (con.rs.any RS.hasSl) (st.share (keptToks st con.as args)) st).moved con.as args).results dst con.rs y) w w' dst) → R (.returned v) w') :
    Enters P f ∧ Calls P f us.toArray w R := by
  obtain ⟨F1, f1, f2, f3, f4⟩ := Rel.share (keptToks st con.as args) h
  obtain ⟨hs, hnd, hq⟩ := Shown.of_call h hz hap f1 f3
  obtain ⟨n1, n2⟩ := apartB_ok hap
  have hF1 : ∀ tok B b cap, tok ∈ mvToks con.as args → look st.b tok = some B → X.β tok = some (b, cap) → F1 b = X.F b := by
    intro tok B b cap ht hB hb
    refine f2 b fun t' B' cap' ht' hB' hb' => ?_
    have hne : t' ≠ tok := fun e => n2 tok ht (by subst e; simp [ht'])
    exact h.bb t' tok B' B b cap' b cap hB' hB hb' hb hne rfl
  have hx0 : ∀ tok B b cap, look st.b tok = some B → B.x = true → X.β tok = some (b, cap) → X.F b = 0 := by
    intro tok B b cap hB hx hb
    have := h.b tok B hB
    simp only [BufOk, hb, hx, if_true] at this
    exact Nat.le_zero.1 this.2.1
  have hok : ArgsOk P (fun b => b < w.heap.size ∧ b ∉ blk (mvQs X.β con.as args)) F1 w con.as z us (mvQs X.β con.as args) := by
    refine decArgs_ok hC (fun b hb => hb.1) X.β hz (fun t ht B v hB hv => ?_) (fun _ h => h) hargs (fun pv u hp hr ht => h.vp hs hr ht fun t htp B b cap hB hb => ⟨h.buf_lt hB hb, fun hm => ?_⟩) rfl
    · have hbok := h.b t B hB
      obtain ⟨B', hB', hx⟩ := decArgs_mv hz t ht
      have e : B' = B := Option.some.inj (hB'.symm.trans hB)
      subst e
      unfold SlAt at hv
      cases hb : X.β t with
      | none => rw [hb] at hv; exact hv
      | some q =>
        obtain ⟨b, cap⟩ := q
        rw [hb] at hv
        simp only [BufOk, hb] at hbok
        obtain ⟨_, _, h3, cs, el, h4, h5, h6⟩ := hbok
        refine ⟨hv, (hF1 t B' b cap ht hB hb).trans (hx0 t B' b cap hB hx hb), h3, cs, el, h4, h5, fun i hi => ?_⟩
        exact RepV.mono hs.O hs.F (Keeps.refl _ _ _) _ _ _ _ (fun _ _ => rfl) (h6 i hi)
    · obtain ⟨tok, B', cap', h1, h2, hB', _⟩ := hq b hm
      have hne : t ≠ tok := fun e => n2 tok h1 (by
        subst e
        rw [List.mem_append, List.mem_flatMap]
        exact .inl ⟨pv, hp, htp⟩)
      exact h.bb t tok B B' b cap b cap' hB hB' hb h2 hne rfl
  obtain ⟨hent, hcall⟩ := hcon
  refine ⟨hent, Calls.mono (hcall z y hy F1 w us _ f4.fnew hnd hok) fun e w' hpost => ?_⟩
  obtain ⟨vs, F2, ps, rfl, hev, hres, hpn, hpb⟩ := hpost
  -- the state that is shown
  have key : ∀ (Xc : Cx) (stc : St) (F3 : Nat → Nat), Rel P Z Xc stc a w → Xc.O = X.O → Xc.ρ = X.ρ → Xc.β = X.β → (∀ b, b ∈ blk (mvQs X.β con.as args) → Xc.F b = 0) →
      (∀ r c, stc.row r = some c → ∃ c', st.row r = some c') → (∀ t B, look stc.b t = some B → ∃ x, look st.b t = some { B with x := x }) →
      (∀ t B, look st.b t = some B → ∃ x, look stc.b t = some { B with x := x }) → (∀ b, X.F b ≤ Xc.F b) →
      (∀ b, b < w.heap.size → Xc.F b = X.F b ∨ ∃ t B cap, look st.b t = some B ∧ X.β t = some (b, cap)) →
      Evo (blk (mvQs X.β con.as args)) Xc.F F3 w w' → RessOk P F3 w' con.rs y vs ps →
      ∃ X', Rel P Z X' ((stc.moved con.as args).results dst con.rs y) (a.put dst (packV vs)) w' ∧ (con.as.any AS.isMv = false → Step X X' st ((stc.moved con.as args).results dst con.rs y) w w' dst) := by
    intro Xc stc F3 hc eO eρ eβ hF0 hrow hbuf hbuf' hFge hFo hev3 hres3
    obtain ⟨k1, k2, k3⟩ := Rel.moved con.as args hc
    have hout : ∀ b, (w.heap.size ≤ b ∨ b ∈ blk (mvQs X.β con.as args)) → Out Z Xc (stc.moved con.as args) b := by
      intro b hb
      refine ⟨fun hO => ?_, fun r c hr e => ?_, fun t B cap hB hβ => ?_⟩
      · rcases hb with hb | hb
        · have := hc.oldO b hO; omega
        · rw [eO] at hO; exact (hs.O b hO).2 hb
      · obtain ⟨c1, hr1⟩ := k3 r c hr
        obtain ⟨c2, hr2⟩ := hrow r c1 hr1
        rcases hb with hb | hb
        · have := hc.row_lt hr1; omega
        · rw [eρ] at e
          exact (hs.rows r c2 hr2).2 (e ▸ hb)
      · obtain ⟨m1, m2⟩ := k2 t B hB
        obtain ⟨x, m3⟩ := hbuf t B m2
        rcases hb with hb | hb
        · have := hc.buf_lt m2 hβ; omega
        · obtain ⟨tok, B', cap', q1, q2, q3, _⟩ := hq b hb
          rw [eβ] at hβ
          have hne : t ≠ tok := fun e => m1 (e ▸ q1)
          exact h.bb t tok _ B' b cap b cap' m3 q3 hβ q2 hne rfl
    have g := k1.growM hev3 fun b hb => ⟨hF0 b hb, hout b (.inr hb)⟩
    obtain ⟨X', r1, r2, r3, r4, r5⟩ := g.results hd hres3 hpn fun b hb => by
      have := hout b (hpb b hb)
      exact ⟨this.O, this.row, this.buf⟩
    refine ⟨X', r1, fun hnm => ?_⟩
    have hms := noMv_moved hnm args
    have hbl : blk (mvQs X.β con.as args) = [] := by
      cases hbb : blk (mvQs X.β con.as args) with
      | nil => rfl
      | cons b l =>
        obtain ⟨tok, B, cap, h1, _⟩ := hq b (by rw [hbb]; simp)
        rw [hms.1] at h1; cases h1
    rw [hms.2] at r5 r4 r1 ⊢
    rw [hbl] at hev3 hpb
    have hps : ∀ b, b ∈ blk ps → w.heap.size ≤ b := fun b hb => (hpb b hb).resolve_right (by simp)
    refine ⟨hev3.ext, fun b hb => ?_, fun b => ?_, fun r _ => ?_, fun r => .inl ?_, fun t ht => ?_, fun hf d t B b cap e ht hB hβ => ?_⟩
    · rw [r2]
      rcases hFo b hb with e | e
      · exact .inl ((hev3.fold b hb (by simp)).trans e)
      · exact .inr e
    · rw [r2]; exact Nat.le_trans (hFge b) (hev3.fge b)
    · rw [r3]; exact congrFun eρ r
    · rw [r3]; exact congrFun eρ r
    · have hin : ∀ d, dst = some d → t < RSs.tok d con.rs ∨ RSs.tok d con.rs + con.rs.length ≤ t := by
        intro d e
        rcases Nat.lt_or_ge t (RSs.tok d con.rs) with h1 | h1
        · exact .inl h1
        · rcases Nat.lt_or_ge t (RSs.tok d con.rs + con.rs.length) with h2 | h2
          · have := ht d e
            rw [tokOf_res h1 h2 hlen] at this; cases this
          · exact .inr h2
      obtain ⟨m1, m2⟩ := r4 t hin
      refine ⟨m1.trans (congrFun eβ t), fun B hB => ?_⟩
      rw [m2]; exact hbuf' t B hB
    · refine hps b (r5 t B b cap ?_ hB hβ)
      cases e2 : look stc.b t with
      | none => rfl
      | some B1 =>
        obtain ⟨x, e3⟩ := hbuf t B1 e2
        rw [hf d t e ht] at e3; cases e3
  cases hsl : con.rs.any RS.hasSl with
  | true =>
    rw [hsl] at hR
    simp only [cond_true] at hR
    have q1 : ∀ b, b ∈ blk (mvQs X.β con.as args) → F1 b = 0 := fun b hb => by
      obtain ⟨tok, B, cap, h1, h2, hB, hx⟩ := hq b hb
      exact (hF1 tok B b cap h1 hB h2).trans (hx0 tok B b cap hB hx h2)
    have q2 : ∀ b, b < w.heap.size → F1 b = X.F b ∨ ∃ t B cap, look st.b t = some B ∧ X.β t = some (b, cap) := fun b hb => by
      rcases Classical.em (∃ t B cap, look st.b t = some B ∧ X.β t = some (b, cap)) with e | e
      · exact .inr e
      · exact .inl (f2 b fun t B cap _ hB hb => e ⟨t, B, cap, hB, hb⟩)
    obtain ⟨X', g1, g2⟩ := key { X with F := F1 } (st.share (keptToks st con.as args)) F2 f4 rfl rfl rfl q1 (fun r c hr => ⟨c, by rw [share_row] at hr; exact hr⟩) (fun t B hB => share_some hB) (fun t B hB => let ⟨x, e, _⟩ := share_look _ _ t B hB; ⟨x, e⟩) f1 q2 hev hres
    exact hR _ X' w' g1 g2
  | false =>
    rw [hsl] at hR
    simp only [cond_false] at hR
    have hq0 : ∀ b, b ∈ blk (mvQs X.β con.as args) → X.F b = 0 := fun b hb => by
      obtain ⟨tok, B, cap, h1, h2, hB, hx⟩ := hq b hb
      exact hx0 tok B b cap hB hx h2
    let F3 : Nat → Nat := fun b => if b < w.heap.size ∧ b ∉ blk (mvQs X.β con.as args) then X.F b else F2 b
    have e3 : Evo (blk (mvQs X.β con.as args)) X.F F3 w w' := by
      refine ⟨hev.os, hev.tape, hev.drawn, hev.output, hev.size, hev.block, fun b hb hm => if_pos ⟨hb, hm⟩, fun b => ?_, fun b hb => ?_⟩
      · show X.F b ≤ if b < w.heap.size ∧ b ∉ blk (mvQs X.β con.as args) then X.F b else F2 b
        split
        · exact Nat.le_refl _
        · rename_i hn
          rcases Nat.lt_or_ge b w.heap.size with h1 | h1
          · have hm : b ∈ blk (mvQs X.β con.as args) := Classical.byContradiction fun hm => hn ⟨h1, hm⟩
            rw [hq0 b hm]; exact Nat.zero_le _
          · rw [h.fnew b h1]; exact Nat.zero_le _
      · have h1 : ¬ b < w.heap.size := by have := hev.size; omega
        show (if b < w.heap.size ∧ b ∉ blk (mvQs X.β con.as args) then X.F b else F2 b) = 0
        rw [if_neg (fun hx => h1 hx.1)]
        exact hev.fnew b hb
    obtain ⟨X', g1, g2⟩ := key X st F3 h rfl rfl rfl hq0 (fun r c hr => ⟨c, hr⟩) (fun t B hB => ⟨B.x, hB⟩) (fun t B hB => ⟨B.x, hB⟩) (fun _ => Nat.le_refl _) (fun _ _ => .inl rfl) e3
      (RessOk.noSl hsl (fun b hb => if_neg fun hx => by rcases hpb b hb with h1 | h1
                                                        · omega
                                                        · exact hx.2 h1) hres)
    exact hR _ X' w' g1 g2
end Go.PgAM
