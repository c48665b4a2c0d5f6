/-
  Operations, one by one: variables and their parts.
-/
import Derived.Test.YtbljidhiecbcfaaAmOp1
import Derived.Laws.Tables
namespace Go.PgAM
open Go Go.RowKit
set_option linter.unusedVariables false
set_option linter.unusedSimpArgs false
variable {P : Program} {E : Env} {Z : At0} {X : Cx} {st st' : St} {a : Act} {w w' : World} {o : Oper} {next : Act → World → Prop} {Q : Exit → Act → World → Prop}

theorem row_lie {b off : Nat} {cs : Array Value} {el : TypeId} {fr : Nat × Nat} (h : w.heap[b]? = some (.cells cs el fr)) : Lie w b off (cs.toList.drop off) := by
  intro j u hj
  simp only [World.cell?, h]
  simpa using hj
theorem wp_load (hE : EnvOk P E Z) (h : Rel P Z X st a w) (hd : dstOk E o = true) {T : TypeId} {x : Operand} (ho : o.op = .load T x) (hs : step1 E o st some = some st') (hn : Goes P E Z X st st' a w o next) : o.wp P a w next Q := by
  unfold step1 at hs
  rw [ho] at hs
  simp only at hs
  have key : ∀ ti (cs : List PC) us b off, E.tyOf T = some ti → a.eval x = .pointer (some ⟨b, off, none⟩) → All2 (RelK P X st.b w) cs us → Lie w b off us →
      (match loadCells ti.vt.isAg ti.vt.size cs with | some v => some (st.setT o.dst v) | none => none) = some st' → o.wp P a w next Q := by
    intro ti cs us b off e1 e2 hc hl e3
    obtain ⟨pv, e4, e5⟩ := some_ret e3
    obtain ⟨v, h1, h2⟩ := run_loadVar (tyB_size (hE.tyOf e1)) hc hl e4
    refine wp_value (v := v) (w' := w) (by unfold execOp; rw [ho]; simp [Instr.loadAt, Instr.sureAddr, e2, h1]) ?_
    exact hn.pure h (dst_lt hE hd) h2 e5
  split at hs
  · rename_i ti r off e1 e2
    split at hs
    · rename_i cs hr
      obtain ⟨_, _, cs', el, hh, ha⟩ := h.r r cs hr
      exact key ti _ _ _ off e1 (opc_ok h e2) (All2.drop off ha) (row_lie hh) hs
    · cases hs
  · rename_i ti cs e1 e2
    obtain ⟨b, off, hv, _, hc⟩ := opc_ok h e2
    obtain ⟨us, h1, h2⟩ := hc.lie (bs := st.b)
    exact key ti _ us b off e1 hv h1 h2 hs
  · rename_i ti t i n cs e1 e2
    obtain ⟨B, b, cap, _, _, _, _, _, hv, hc⟩ := opc_ok h e2
    obtain ⟨us, h1, h2⟩ := hc.lie (bs := st.b)
    exact key ti _ us b _ e1 hv h1 h2 hs
  · cases hs
theorem pvcells_ok {pv : PV} {v : Value} {ps : List PC} (hv : RelP P X st.b w pv v) (h : pv.cells = some ps) : All2 (RelK P X st.b w) ps v.cells.toList := by
  cases pv with
  | tup vs => cases h
  | agg qs =>
    cases h
    obtain ⟨cells, rfl, ha⟩ := hv
    exact ha
  | s p =>
    have key : p ≠ .dead → p ≠ .undef → ps = [p] → All2 (RelK P X st.b w) ps v.cells.toList := by
      intro h1 h2 e
      subst e
      have hv : RelC P X st.b w p v := hv
      have ho := hv.one h1 h2
      have : v.cells.toList = [v] := by cases v <;> first | rfl | (simp [Value.oneCell'] at ho)
      rw [this]
      exact ⟨⟨hv, ho⟩, trivial⟩
    cases p <;> first | (cases h; done) | (exact key (by simp) (by simp) (Option.some.inj h).symm)
theorem splice_some {α : Type} : ∀ {l : List α} {off : Nat} {xs r : List α}, splice l off xs = some r → off + xs.length ≤ l.length ∧ r = l.take off ++ xs ++ l.drop (off + xs.length)
  | [], 0, [], r, h => by cases h; simp
  | _ :: _, 0, [], r, h => by cases h; simp
  | [], 0, _ :: _, r, h => by cases h
  | a :: l, 0, x :: xs, r, h => by
    simp only [splice, Option.map_eq_some_iff] at h
    obtain ⟨r', h1, rfl⟩ := h
    obtain ⟨h2, h3⟩ := splice_some h1
    subst h3
    refine ⟨by simp at h2 ⊢; omega, ?_⟩
    simp [Nat.add_comm]
  | [], n + 1, xs, r, h => by cases h
  | a :: l, n + 1, xs, r, h => by
    simp only [splice, Option.map_eq_some_iff] at h
    obtain ⟨r', h1, rfl⟩ := h
    obtain ⟨h2, h3⟩ := splice_some h1
    subst h3
    refine ⟨by simp at h2 ⊢; omega, ?_⟩
    rw [show n + 1 + xs.length = (n + xs.length) + 1 by omega]
    simp
theorem run_storeVar_at {T : TypeId} {n : Nat} {ag : Bool} (ht : sizeB P T n ag = true) {b off : Nat} {cs : Array Value} {el : TypeId} {v : Value} (hh : w.heap[b]? = some (.cells cs el (0, 0))) (hn : v.cells.size = n)
    (hle : off + n ≤ cs.size) (h1 : ∀ u ∈ v.cells.toList, u.oneCell' = true) :
    (storeVar T ⟨b, off, none⟩ v).run P w = .ok () (w.setRow b (cs.toList.take off ++ v.cells.toList ++ cs.toList.drop (off + v.cells.toList.length)).toArray) := by
  have h2 := run_sizeOf ht w
  have h3 := run_storeCells_at P b off el v.cells.toList 0 cs w hh (by simp [hn]; omega) h1
  simp [storeVar, h2, hn]
  simpa [hn] using h3
theorem All2.mem {α β : Type} {R : α → β → Prop} : ∀ {l : List α} {m : List β}, All2 R l m → ∀ b ∈ m, ∃ a, R a b
  | [], [], _, b, hb => by simp at hb
  | a :: l, c :: m, h, b, hb => by
    rcases List.mem_cons.1 hb with rfl | hb
    · exact ⟨a, h.1⟩
    · exact All2.mem h.2 b hb
  | [], _ :: _, h, _, _ => h.elim
  | _ :: _, [], h, _, _ => h.elim
theorem wp_store (hE : EnvOk P E Z) (h : Rel P Z X st a w) (hd : dstOk E o = true) {T : TypeId} {x y : Operand} (ho : o.op = .store T x y) (hs : step1 E o st some = some st')
    (hel : ∀ ti tok i cs v, E.tyOf T = some ti → opc st x = some (.eptr tok i 0 cs) → opv st y = some v → storeElem E tok i ti.vt.size v st some = some st' → o.wp P a w next Q)
    (hn : Goes P E Z X st st' a w o next) : o.wp P a w next Q := by
  unfold step1 at hs
  rw [ho] at hs
  simp only at hs
  cases hds : o.dst with
  | some d => rw [hds] at hs; cases hs
  | none =>
    rw [hds] at hs
    simp only at hs
    split at hs
    · rename_i ti r off pv e1 e2 e3
      split at hs
      · rename_i cs ps hr hps
        cases hl : Nat.beq ps.length ti.vt.size with
        | false => rw [hl] at hs; cases hs
        | true =>
          rw [hl] at hs
          simp only [cond_true] at hs
          split at hs
          · rename_i cs' hsp
            have hs := Option.some.inj hs
            obtain ⟨hO, hF, cells, el, hh, ha⟩ := h.r r cs hr
            have hv := pvcells_ok (opv_ok h e3) hps
            have hlen := Nat.eq_of_beq_eq_true hl
            obtain ⟨q1, q2⟩ := splice_some hsp
            have l1 := All2.length hv
            have l2 := All2.length ha
            have l3 : (a.eval y).cells.size = ti.vt.size := by rw [← hlen, l1]; simp
            have hx : a.eval x = .pointer (some ⟨X.ρ r, off, none⟩) := opc_ok h e2
            have hst := run_storeVar_at (w := w) (n := ti.vt.size) (off := off) (v := a.eval y) (tyB_size (hE.tyOf e1)) hh l3 (by simp at l2; omega) (fun u hu => (All2.mem hv u hu).elim fun p hp => hp.2)
            refine wp_skip' (by unfold execOp; rw [ho]; simp only [Instr.storeAt, Instr.sureAddr, hx, Sem.run_bind, Sem.run_pure, Result.andThen_ok, hst]; rfl) ?_
            refine hn _ X _ ?_ fun hq _ => ?_
            · rw [hds, ← hs]
              refine h.setRow hr ?_
              rw [q2, List.toList_toArray]
              refine All2.append (All2.append (All2.take off ha) hv) ?_
              rw [← l1]; exact All2.drop _ ha
            · simp [isQ, ho] at hq
          · cases hs
      · cases hs
    · rename_i ti tok i cs v e1 e2 e3
      exact hel ti tok i cs v e1 e2 e3 hs
    · cases hs
theorem wp_fieldAddr (hE : EnvOk P E Z) (h : Rel P Z X st a w) (hd : dstOk E o = true) {T : TypeId} {x : Operand} {f : Nat} (ho : o.op = .fieldAddr T x f) (hs : step1 E o st some = some st') (hn : Goes P E Z X st st' a w o next) : o.wp P a w next Q := by
  unfold step1 at hs
  rw [ho] at hs
  simp only at hs
  split at hs
  · rename_i ti p e1 e2
    split at hs
    · rename_i off n ag e3
      have hne : ti.flds ≠ [] := fun e => by rw [e] at e3; cases f <;> cases e3
      obtain ⟨fs, hu, hfs⟩ := tyB_struct (hE.tyOf e1) hne
      obtain ⟨fd, h1, h2, h3⟩ := fldsB_ok hfs f _ e3
      have h1 : fs[f]? = some fd := by simpa using h1
      simp only at h2 h3
      have h4 := run_sizeOf h3 w
      have key : ∀ b o' q, a.eval x = .pointer (some ⟨b, o', none⟩) → RelC P X st.b w q (.pointer (some ⟨b, o' + off, none⟩)) → st.setT o.dst (.s q) = st' → o.wp P a w next Q := by
        intro b o' q hx hq e
        refine wp_value (v := .pointer (some ⟨b, o' + off, none⟩)) (w' := w) (by unfold execOp; rw [ho]; simp [Instr.fieldAt, run_underlying hu, h1, Instr.sureAddr, hx, fieldPlace, h4, h2, add_at]) ?_
        exact hn.pure h (dst_lt hE hd) (pv := .s q) hq e
      have h5 := opc_ok h e2
      split at hs
      · rename_i r o'
        exact key _ o' _ h5 (by simp only [RelC]) (Option.some.inj hs)
      · rename_i cs
        split at hs
        · rename_i hle
          have hle := Nat.le_of_ble_eq_true hle
          obtain ⟨b, o', hv, ho', hc⟩ := h5
          refine key b o' _ hv ?_ (Option.some.inj hs)
          refine ⟨b, o' + off, rfl, ho'.imp id fun h => ?_, fun j c hj => ?_⟩
          · simp; omega
          · rw [List.getElem?_drop] at hj
            rw [Nat.add_assoc]; exact hc _ c hj
        · cases hs
      · rename_i t i o' cs
        split at hs
        · rename_i hle
          have hle := Nat.le_of_ble_eq_true hle
          obtain ⟨B, b, cap, hB, hβ, h0, hi, hsz, hv, hc⟩ := h5
          refine key b _ _ hv ?_ (Option.some.inj hs)
          refine ⟨B, b, cap, hB, hβ, h0, hi, ?_, by rw [Nat.add_assoc], fun j c hj => ?_⟩
          · simp; omega
          · rw [List.getElem?_drop] at hj
            have := hc _ c hj
            rwa [show i.toNat * B.e.size + o' + (off + j) = i.toNat * B.e.size + (o' + off) + j by omega] at this
        · cases hs
      · cases hs
    · cases hs
  · cases hs
theorem wp_field (hE : EnvOk P E Z) (h : Rel P Z X st a w) (hd : dstOk E o = true) {T : TypeId} {x : Operand} {f : Nat} (ho : o.op = .field T x f) (hs : step1 E o st some = some st') (hn : Goes P E Z X st st' a w o next) : o.wp P a w next Q := by
  unfold step1 at hs
  rw [ho] at hs
  simp only at hs
  split at hs
  · rename_i ti ps e1 e2
    split at hs
    · rename_i off n ag e3
      have hne : ti.flds ≠ [] := fun e => by rw [e] at e3; cases f <;> cases e3
      obtain ⟨fs, hu, hfs⟩ := tyB_struct (hE.tyOf e1) hne
      obtain ⟨fd, h1, h2, h3⟩ := fldsB_ok hfs f _ e3
      have h1 : fs[f]? = some fd := by simpa using h1
      simp only at h2 h3
      obtain ⟨cells, hx, ha⟩ := opv_ok h e2
      obtain ⟨pv, e4, e5⟩ := some_ret hs
      obtain ⟨v, q1, q2⟩ := run_part (off := off) h3 ha e4
      refine wp_value (v := v) (w' := w) (by unfold execOp; rw [ho]; simp [Instr.field, run_underlying hu, h1, asAgg, hx, h2, q1]) ?_
      exact hn.pure h (dst_lt hE hd) q2 e5
    · cases hs
  · cases hs
theorem splitIdx_some {R : Type} {i : Int} {f : Nat → Option R} {r : R} : ∀ {n j : Nat}, splitIdx i n j f = some r → ∃ m : Nat, i = m ∧ j ≤ m ∧ m < j + n ∧ f m = some r
  | 0, j, h => by cases h
  | n + 1, j, h => by
    simp only [splitIdx] at h
    cases e : i == ((j : Nat) : Int) with
    | true =>
      rw [e] at h
      exact ⟨j, by simpa using e, Nat.le_refl _, by omega, h⟩
    | false =>
      rw [e] at h
      obtain ⟨m, h1, h2, h3, h4⟩ := splitIdx_some (n := n) (j := j + 1) h
      exact ⟨m, h1, by omega, by omega, h4⟩
theorem oInt_ok (h : Rel P Z X st a w) {x : Operand} {i : Int} (e : oInt st x = some i) : ∃ k, a.eval x = .int k i := by
  unfold oInt at e
  split at e
  · rename_i k n e1
    have := opc_ok h e1
    simp only [RelC, RepS] at this
    have e := Option.some.inj e
    subst e; exact ⟨k, this⟩
  · cases e
theorem idx_some {α : Type} {xs : List α} {i : Int} {y : α} (h : idx xs i = some y) : ∃ n : Nat, i = n ∧ xs[n]? = some y := by
  cases i with
  | ofNat n => exact ⟨n, rfl, h⟩
  | negSucc n => cases h
theorem wp_index (hE : EnvOk P E Z) (h : Rel P Z X st a w) (hd : dstOk E o = true) {T : TypeId} {x y : Operand} (ho : o.op = .index T x y) (hs : step1 E o st some = some st') (hn : Goes P E Z X st st' a w o next) : o.wp P a w next Q := by
  unfold step1 at hs
  rw [ho] at hs
  simp only at hs
  split at hs
  · rename_i ti ps i e1 e2 e3
    obtain ⟨m, rfl, _, hm, hs⟩ := splitIdx_some hs
    obtain ⟨k, hi⟩ := oInt_ok h e3
    obtain ⟨T', hu, h3⟩ := tyB_array (hE.tyOf e1) (by omega)
    obtain ⟨cells, hx, ha⟩ := opv_ok h e2
    obtain ⟨pv, e4, e5⟩ := some_ret hs
    obtain ⟨v, q1, q2⟩ := run_part (off := m * ti.arr.2.1) h3 ha e4
    have h4 := run_sizeOf h3 w
    have hm : m < ti.arr.1 := by omega
    refine wp_value (v := v) (w' := w) (by unfold execOp; rw [ho]; simp [Instr.index, run_underlying hu, asIntOf, hi, hx, h4, q1, hm]) ?_
    exact hn.pure h (dst_lt hE hd) q2 e5
  · rename_i ti s i e1 e2 e3
    split at hs
    · rename_i e4
      obtain ⟨c, hc, hs2⟩ := Option.bind_eq_some_iff.1 hs
      obtain ⟨n, rfl, hn'⟩ := idx_some hc
      obtain ⟨k, hi⟩ := oInt_ok h e3
      have hu := tyB_str (hE.tyOf e1) e4
      have hx := opv_ok h e2
      simp only [RelP, RelC, RepS] at hx
      have hb : (show ByteArray from s)[n]? = some c := by
        have h1 : (show ByteArray from s).data.toList[n]? = some c := hn'
        obtain ⟨hlt, h2⟩ := List.getElem?_eq_some_iff.1 h1
        have hlt : n < (show ByteArray from s).size := by
          have h3 : n < (show ByteArray from s).data.size := by simpa using hlt
          exact h3
        rw [getElem?_pos (show ByteArray from s) n hlt]
        congr 1
      refine wp_value (v := .int .u8 ((UInt8.toNat c : Nat) : Int)) (w' := w) (by unfold execOp; rw [ho]; simp [Instr.index, run_underlying hu, asIntOf, hi, hx, hb]) ?_
      exact hn.pure h (dst_lt hE hd) (by simp only [PV.i, RelP, RelC, RepS]) (Option.some.inj hs2)
    · cases hs
  · cases hs
end Go.PgAM
