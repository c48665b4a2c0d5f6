/-
  Operations, one by one: a call of a function that is a value.
-/
import Derived.Test.YtbljidhiecbcfaaAmOpB
namespace Go.PgAM
open Go Go.RowKit
set_option linter.unusedVariables false
set_option linter.unusedSimpArgs false
variable {P : Program} {E : Env} {Z : At0} {X : Cx} {st st' : St} {a : Act} {w w' : World} {o : Oper} {next : Act → World → Prop} {Q : Exit → Act → World → Prop}

theorem argPV_ok (h : Rel P Z X st a w) {x : Operand} {T : TypeId} {pv : PV} (hx : argPV E st x T = some pv) : RelP P X st.b w pv (a.eval x) := by
  unfold argPV at hx
  split at hx
  · split at hx
    · split at hx
      · have hx := Option.some.inj hx
        subst hx
        simp only [RelP, RelC, RepS]
        exact ⟨none, 0, rfl, Nat.le_refl _, .inl rfl⟩
      · cases hx
    · cases hx
  · exact opv_ok h hx
theorem argPVs_ok (h : Rel P Z X st a w) : ∀ {os : List Operand} {ts : List TypeId} {pvs : List PV}, argPVs E st os ts = some pvs → All2 (RelP P X st.b w) pvs (os.map a.eval)
  | [], ts, pvs, e => by
    have : pvs = [] := by cases ts <;> exact (Option.some.inj e).symm
    subst this; trivial
  | o :: os, [], pvs, e => by cases e
  | o :: os, t :: ts, pvs, e => by
    simp only [argPVs] at e
    split at e
    · rename_i v vs e1 e2
      have e := Option.some.inj e
      subst e
      exact ⟨argPV_ok h e1, argPVs_ok h e2⟩
    · cases e
theorem run_callValue {c : Call} {f : Operand} (ho : o.op = .call c) (hc : c.callee = .value f) {F : FuncId} {vs : Array Value} (hf : a.eval f = .func (.func F) #[] vs) (he : Enters P F) :
    (execOp a.eval o).run P w = .ok (.enter F ((c.args.toList.map a.eval).toArray ++ vs)) w := by
  have := he ((c.args.toList.map a.eval).toArray ++ vs) w
  unfold execOp
  rw [ho]
  simp only [resolve, hc, Deferred.ofValue, hf, Sem.run_bind, Sem.run_pure, Result.andThen_ok, invoke]
  have e : (#[] ++ c.args.map a.eval : Array Value) = (c.args.toList.map a.eval).toArray := by
    apply Array.ext'; simp
  rw [e]; exact this

section nosl
variable {O O' : Nat → Prop} {F F' : Nat → Nat}
theorem RepWs.noSl : (t : VTs) → t.hasSl = false → {x : t.I} → {us : List Value} → RepWs P t O F w x us → RepWs P t O' F' w' x us
  | .nil, _, x, us, h => by simpa only [RepWs] using h
  | .cons v .nil, hs, x, us, h => by
    simp only [RepWs] at h ⊢
    simp only [VTs.hasSl, Bool.or_false] at hs
    obtain ⟨u, g, h1, h2, h3⟩ := h
    exact ⟨u, g, h1, h2, RepV.noSl v hs h3⟩
  | .cons v (.cons v' r), hs, x, us, h => by
    simp only [RepWs] at h ⊢
    have hs1 : v.hasSl = false ∧ (VTs.cons v' r).hasSl = false := by
      rw [VTs.hasSl] at hs; simpa using hs
    obtain ⟨u, us', g, h1, h2, h3, h4⟩ := h
    exact ⟨u, us', g, h1, h2, RepV.noSl v hs1.1 h3, RepWs.noSl (.cons v' r) hs1.2 h4⟩
end nosl
theorem Whole.tc {v : VT} {x : v.I} {u : Value} {g : Nat → Option Value} {bs : List (Nat × Buf)} (hw : Whole v u g) (hr : RepV P v X.O X.F w x g) :
    RelTC P X bs w (match v, x with
      | .sc s, x => (false, [.d ⟨s, x⟩])
      | .ag cs, x => (true, (cs.cells x).map .d)) u := by
  cases v with
  | sc s =>
    simp only [Whole] at hw
    subst hw
    simp only [RepV] at hr
    obtain ⟨u', hu, hs⟩ := hr
    cases hu
    have hs : RelC P X bs w (.d ⟨s, x⟩) u := hs
    exact ⟨⟨hs, hs.one (by simp) (by simp)⟩, trivial⟩
  | ag cs =>
    obtain ⟨cells, rfl, hsz, rfl⟩ := hw
    simp only [RepV] at hr
    exact ⟨cells, rfl, RepV.dcells rfl rfl hsz hr⟩
theorem vals_ok (d : Nat) {bs : List (Nat × Buf)} : ∀ (t : VTs) {x : t.I} {us : List Value}, RepWs P t X.O X.F w x us → All2 (RelTC P X bs w) (VTs.vals d t x) us
  | .nil, x, us, h => by simp only [RepWs] at h; subst h; trivial
  | .cons v .nil, x, us, h => by
    simp only [RepWs] at h
    obtain ⟨u, g, rfl, h2, h3⟩ := h
    have := h2.tc (bs := bs) h3
    cases v <;> exact ⟨this, trivial⟩
  | .cons v (.cons v' r), x, us, h => by
    simp only [RepWs] at h
    obtain ⟨u, us', g, rfl, h2, h3, h4⟩ := h
    have := h2.tc (bs := bs) h3
    have ih := vals_ok d (.cons v' r) h4 (bs := bs)
    cases v <;> exact ⟨this, ih⟩

/-- Memory as it was, but for what is new. -/
def newF (w : World) (F F' : Nat → Nat) : Nat → Nat := fun b => if b < w.heap.size then F b else F' b
theorem newF_evo {F F1 F' : Nat → Nat} (hF : ∀ b, w.heap.size ≤ b → F b = 0) (e : Evo [] F1 F' w w') : Evo [] F (newF w F F') w w' := by
  refine ⟨e.os, e.tape, e.drawn, e.output, e.size, e.block, fun b hb _ => if_pos hb, fun b => ?_, fun b hb => ?_⟩
  · unfold newF
    split
    · exact Nat.le_refl _
    · rename_i hn; rw [hF b (by omega)]; exact Nat.zero_le _
  · unfold newF
    have := e.size
    rw [if_neg (by omega)]
    exact e.fnew b hb

theorem wp_callValue (hE : EnvOk P E Z) (h : Rel P Z X st a w) (hd : dstOk E o = true) {c : Call} {f : Operand} (ho : o.op = .call c) (hc : c.callee = .value f) (hs : step1 E o st some = some st') (hn : Goes P E Z X st st' a w o next) : o.wp P a w next Q := by
  unfold step1 at hs
  rw [ho] at hs
  simp only [hc] at hs
  split at hs
  · cases hs
  · rename_i args e1
    have hargs := argPVs_ok h e1
    split at hs
    · rename_i F cs e2
      split at hs
      · rename_i con e3
        obtain ⟨vs, hf, hcs⟩ := opc_ok h e2
        have hall : All2 (RelP P X st.b w) (args ++ cs.map capPV) (c.args.toList.map a.eval ++ vs.toList) := by
          refine All2.append hargs (All2.imp capPV (R := RelCap P X w) (fun c u hu => ?_) hcs)
          cases c with
          | loc r => exact hu
          | sref cs => exact hu
        unfold callCon at hs
        split at hs
        · cases hs
        · rename_i z hz
          simp only at hs
          obtain ⟨hcond, hs⟩ := cond_some hs
          simp only [Bool.and_eq_true] at hcond
          obtain ⟨hap, hlen⟩ := hcond
          have hlen := Nat.le_of_ble_eq_true hlen
          obtain ⟨y, hy, hs⟩ := Option.bind_eq_some_iff.1 hs
          have hst := Option.some.inj hs
          obtain ⟨hent, hcall⟩ := h.call hE.C (hE.C F con e3) hall hz hap hy (dst_lt hE hd) hlen
            (R := fun | .returned v, w'' => next (a.put o.dst v) w'' | .panicked chain, w'' => Q (.panic chain) a w'' | .outgrown, _ => LetsOut Q)
            (fun v X' w' hr hstep => hn v X' w' (by rw [← hst]; exact hr) fun _ hq => by rw [← hst]; exact hstep (hq.1 F con e3))
          unfold Oper.wp
          rw [run_callValue ho hc hf hent, Oper.upon_enter]
          have harr : ((c.args.toList.map a.eval).toArray ++ vs) = (c.args.toList.map a.eval ++ vs.toList).toArray := by simp
          rw [harr]
          exact hcall
      · cases hs
    · rename_i ta tr φ e2
      split at hs
      · rename_i z hz
        obtain ⟨y, hy, hs⟩ := Option.bind_eq_some_iff.1 hs
        have hst := Option.some.inj hs
        have hf := opc_ok h e2
        simp only [RelC, RepS] at hf
        obtain ⟨F, caps, hfv, hfx⟩ := hf
        obtain ⟨F1, g1, g2, g3, g4⟩ := h.share' (args.flatMap (PV.toks st)) o.dst
        have hsh : Shown X st (fun b => b < w.heap.size) F1 (args.flatMap (PV.toks st)) := ⟨h.oldO, g2, fun r c hr => h.row_lt hr, fun t ht B b cap => g3 t B b cap ht⟩
        have hvp : All2 (VP P st (fun b => b < w.heap.size) F1 w) args (c.args.toList.map a.eval) := by
          refine hargs.imp_mem fun pv u hm hr => h.vp hsh hr (fun t ht => List.mem_flatMap.2 ⟨pv, hm, ht⟩) fun t _ B b cap hB hb => h.buf_lt hB hb
        have hws := toVTs_ok hE.C (fun _ h => h) ta hz hvp
        obtain ⟨hent, hcall⟩ := hfx F1 w (Keeps.refl _ _ _) g2 g1.fnew z y hy _ hws
        unfold Oper.wp
        rw [run_callValue ho hc hfv hent, Oper.upon_enter]
        refine Calls.mono hcall fun e w' hx => ?_
        obtain ⟨us, F2, rfl, hev, hres⟩ := hx
        show next (a.put o.dst (packV us)) w'
        cases hsl : tr.hasSl with
        | true =>
          rw [hsl] at hst
          simp only [cond_true] at hst
          have k := g1.grow hev
          have hres' : RepWs P tr X.O F2 w' y us := RepWs.mono (fun _ h => h.elim) (fun _ => Nat.le_refl _) (Keeps.refl _ _ _) tr y us hres
          have hp := pack_ok (P := P) (X := { X with F := F2 }) (bs := (st.share (args.flatMap (PV.toks st))).b) (w := w') (vals_ok 0 tr hres')
          refine hn _ { X with F := F2 } w' ?_ fun _ _ => ?_
          · rw [← hst]; exact k.put' (dst_lt hE hd) hp
          · rw [← hst]
            have s1 := g4 (packPV (VTs.vals 0 tr y))
            refine ⟨hev.ext, fun b hb => ?_, fun b => Nat.le_trans (g2 b) (hev.fge b), s1.ρ, fun r => .inl rfl, s1.β, fun hf d t B b cap e ht hB hβ => ?_⟩
            · have h1 : F2 b = F1 b := hev.fold b hb (by simp)
              rcases s1.F b hb with h2 | h2
              · exact .inl (h1.trans h2)
              · exact .inr h2
            · have := s1.βn hf d t B b cap e ht hB hβ
              exact this
        | false =>
          rw [hsl] at hst
          simp only [cond_false] at hst
          have hev' := newF_evo (F := X.F) h.fnew hev
          have k := h.grow hev'
          have hres' : RepWs P tr X.O (newF w X.F F2) w' y us := RepWs.noSl tr hsl hres
          have hp := pack_ok (P := P) (X := { X with F := newF w X.F F2 }) (bs := st.b) (w := w') (vals_ok 0 tr hres')
          refine hn _ { X with F := newF w X.F F2 } w' ?_ fun _ _ => ?_
          · rw [← hst]; exact k.put' (dst_lt hE hd) hp
          · rw [← hst]
            have s1 := Step.same (X := X) (st := st) (w := w) (o := o.dst) (packPV (VTs.vals 0 tr y))
            exact ⟨hev.ext, fun b hb => .inl (hev'.fold b hb (by simp)), hev'.fge, s1.ρ, fun r => .inl rfl, s1.β, s1.βn⟩
      · cases hs
    · cases hs
end Go.PgAM
