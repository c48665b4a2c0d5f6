/-
  Operations, one by one: what is built of parts.
-/
import Derived.Test.YtbljidhiecbcfaaAmOp3
import Derived.Great.BuildSlice
namespace Go.PgAM
open Go Go.RowKit
set_option linter.unusedVariables false
set_option linter.unusedSimpArgs false
variable {P : Program} {E : Env} {Z : At0} {X : Cx} {st st' : St} {a : Act} {w w' : World} {o : Oper} {next : Act → World → Prop} {Q : Exit → Act → World → Prop}

theorem foldl_splice (off : Nat) (vs : List Value) (cs : Array Value) (h : off + vs.length ≤ cs.size) :
    (vs.zipIdx.foldl (fun cs (x : Value × Nat) => cs.setIfInBounds (off + x.2) x.1) cs).toList = cs.toList.take off ++ vs ++ cs.toList.drop (off + vs.length) := by
  obtain ⟨h1, h2⟩ := Great.foldl_set off vs 0 cs
  apply List.ext_getElem?
  intro k
  have := h2 k
  rw [← Array.getElem?_toList] at this
  rw [this]
  simp only [Nat.add_zero]
  by_cases c1 : k < off
  · rw [if_neg (by omega), List.append_assoc, List.getElem?_append_left (by simp; omega), List.getElem?_take, if_pos c1]
    simp
  · by_cases c2 : k < off + vs.length
    · rw [if_pos ⟨by omega, c2, by omega⟩, List.append_assoc, List.getElem?_append_right (by simp; omega), List.getElem?_append_left (by simp; omega)]
      simp only [List.length_take, Array.length_toList, Nat.min_eq_left (show off ≤ cs.size by omega)]
    · rw [if_neg (by omega), List.getElem?_append_right (by simp; omega), List.getElem?_drop]
      simp only [List.length_append, List.length_take, Array.length_toList, Nat.min_eq_left (show off ≤ cs.size by omega)]
      rw [show off + vs.length + (k - (off + vs.length)) = k by omega]
      simp
theorem fill_ok (h : Rel P Z X st a w) {ti : TI} {pl : Nat → Option (Nat × Nat)} (hpl : ∀ i p, ti.place i = some p → pl i = some p) :
    ∀ (parts : List (Nat × Operand)) {ps : List (Nat × List PC)} {zs r : List PC} {cells : Array Value}, partCells st ti parts = some ps → fillCells zs ps = some r → All2 (RelK P X st.b w) zs cells.toList →
      ∃ cells', Instr.fill pl cells (parts.map fun x => (x.1, a.eval x.2)) = some cells' ∧ All2 (RelK P X st.b w) r cells'.toList
  | [], ps, zs, r, cells, h1, h2, h3 => by
    cases h1; cases h2; exact ⟨cells, rfl, h3⟩
  | (i, x) :: parts, ps, zs, r, cells, h1, h2, h3 => by
    simp only [partCells] at h1
    split at h1
    · rename_i v p q e1 e2 e3
      split at h1
      · rename_i cs e4
        cases hl : Nat.beq cs.length p.2 with
        | false => rw [hl] at h1; cases h1
        | true =>
          rw [hl] at h1
          cases h1
          simp only [fillCells] at h2
          split at h2
          · rename_i l' e5
            have hv := pvcells_ok (opv_ok h e1) e4
            obtain ⟨q1, q2⟩ := splice_some e5
            have l1 := All2.length hv
            have l3 := All2.length h3
            have hlen := Nat.eq_of_beq_eq_true hl
            simp only [Array.length_toList] at l1 l3
            have hsz : (a.eval x).cells.size = p.2 := by rw [← hlen, l1]
            have hle : p.1 + (a.eval x).cells.toList.length ≤ cells.size := by simp; omega
            have hf := foldl_splice p.1 (a.eval x).cells.toList cells hle
            have hz : ((a.eval x).cells.zipIdx.foldl (fun cs (x : Value × Nat) => cs.setIfInBounds (p.1 + x.2) x.1) cells).toList = cells.toList.take p.1 ++ (a.eval x).cells.toList ++ cells.toList.drop (p.1 + (a.eval x).cells.toList.length) := by
              rw [← hf, ← Array.foldl_toList, Array.toList_zipIdx]
            have hnew : All2 (RelK P X st.b w) l' ((a.eval x).cells.zipIdx.foldl (fun cs (x : Value × Nat) => cs.setIfInBounds (p.1 + x.2) x.1) cells).toList := by
              rw [hz, q2]
              refine All2.append (All2.append (All2.take _ h3) hv) ?_
              rw [show (a.eval x).cells.toList.length = cs.length by simp [l1]]
              exact All2.drop _ h3
            obtain ⟨cells', k1, k2⟩ := fill_ok h hpl parts e3 h2 hnew
            refine ⟨cells', ?_, k2⟩
            have hno : ((a.eval x).cells.size ≠ p.2 || decide (p.1 + (a.eval x).cells.size > cells.size)) = false := by
              simp [hsz]; simp at hle; omega
            simp only [List.map_cons, Instr.fill, hpl i p e2]
            rw [if_neg (by simpa using hno)]
            exact k1
          · cases h2
      · cases h1
    · cases h1
theorem fldsB_places : ∀ {fs : List Field} {l : List (Nat × Nat × Bool)}, fldsB P fs l = true → fs.mapM (fun f => (P.info? f.type).map fun i => (f.offset, i.size)) = some (l.map fun x => (x.1, x.2.1))
  | [], [], _ => rfl
  | [], _ :: _, h => by cases h
  | _ :: _, [], h => by cases h
  | fd :: fs, (off, n, ag) :: l, h => by
    simp only [fldsB, Bool.and_eq_true] at h
    obtain ⟨i, d, hi, _, rfl, _⟩ := sizeB_ok h.1.2
    have hoff := Nat.eq_of_beq_eq_true h.1.1
    subst hoff
    simp [List.mapM_cons, hi, fldsB_places h.2]
theorem wp_build (hE : EnvOk P E Z) (h : Rel P Z X st a w) (hd : dstOk E o = true) {T : TypeId} {parts : Array (Nat × Operand)} (ho : o.op = .build T parts) (hs : step1 E o st some = some st') (hn : Goes P E Z X st st' a w o next) : o.wp P a w next Q := by
  unfold step1 at hs
  rw [ho] at hs
  simp only at hs
  split at hs
  · rename_i ti e1
    split at hs
    · rename_i cs ps hvt hps
      obtain ⟨pv, e2, e3⟩ := some_ret hs
      simp only [Option.map_eq_some_iff] at e2
      obtain ⟨r, e4, rfl⟩ := e2
      have hty := hE.tyOf e1
      obtain ⟨it, hit, hz⟩ := zeroB_ok (tyB_zero hty)
      obtain ⟨d, hu, hdd⟩ := tyB_und hty
      have hz0 : All2 (RelK P X st.b w) (zeroD cs) (zeroV ti.vt).cells.toList := by
        rw [zeroV_cells, hvt]; exact zeroD_ok cs
      have key : ∀ pl, (∀ i p, ti.place i = some p → pl i = some p) → (∀ cells', Instr.fill pl (zeroV ti.vt).cells (parts.toList.map fun x => (x.1, a.eval x.2)) = some cells' → P.built T (parts.map fun x => (x.1, a.eval x.2)).toList = some cells') → o.wp P a w next Q := by
        intro pl hpl hb
        obtain ⟨cells', k1, k2⟩ := fill_ok h hpl parts.toList hps e4 hz0
        have hrun := run_build w T (parts.map fun x => (x.1, a.eval x.2)) cells' (hb cells' k1)
        refine wp_value (v := .agg cells') (w' := w) (by unfold execOp; rw [ho]; simp only [Sem.run_bind, hrun, Result.andThen_ok, Sem.run_pure]) ?_
        exact hn.pure h (dst_lt hE hd) (pv := .agg r) ⟨cells', rfl, k2⟩ e3
      rw [hvt] at hdd
      cases d <;> simp only [Bool.false_eq_true, Bool.and_eq_true] at hdd
      case struct fs =>
        obtain ⟨h1, h2⟩ := hdd
        have hm := fldsB_places h1
        refine key (fun i => (ti.flds.map fun x => (x.1, x.2.1)).toArray[i]?) (fun i p hp => ?_) fun cells' hf => ?_
        · have harr := Nat.eq_of_beq_eq_true h2
          unfold TI.place at hp
          split at hp
          · rw [harr] at hp; cases hp
          · rw [nth_eq] at hp
            simpa using hp
        · simp only [Program.built, hit, hu, hz, hm]
          simpa using hf
      case array n T' =>
        obtain ⟨⟨h1, h2⟩, h3⟩ := hdd
        obtain ⟨ie, _, hie, _, hsz, _⟩ := sizeB_ok h3
        refine key (fun i => some (i * ie.size, ie.size)) (fun i p hp => ?_) fun cells' hf => ?_
        · have hfl : ti.flds = [] := by simpa using h1
          unfold TI.place at hp
          rw [hfl] at hp
          simp only at hp
          cases hb : Nat.blt i ti.arr.1 with
          | false => rw [hb] at hp; cases hp
          | true => rw [hb] at hp; cases hp; rw [hsz]
        · simp only [Program.built, hit, hu, hz, hie]
          simpa using hf
    · cases hs
  · cases hs
end Go.PgAM
