/-
  What the machine knows of types, against the program's table; a load, a store, by cells.
-/
import Derived.Test.YtbljidhiecbcfaaAmFn
import Derived.Laws.Rows
namespace Go.PgAM
open Go Go.RowKit
set_option linter.unusedVariables false

def zeroS : Sc → Value
  | .int k => .int k 0
  | .bool => .bool false
  | .str => .string ByteArray.empty
  | .sl _ => .slice none 0 0
  | .fn _ _ => .nilFunc
def zeroCs : Scs → List Value
  | .nil => []
  | .cons s r => zeroS s :: zeroCs r
def zeroV : VT → Value
  | .sc s => zeroS s
  | .ag cs => .agg (zeroCs cs).toArray
def isZS : Sc → Value → Bool
  | .int k, .int k' n => decide (k = k') && n == 0
  | .bool, .bool b => !b
  | .str, .string s => Nat.beq s.size 0
  | .sl _, .slice none 0 0 => true
  | .fn _ _, .nilFunc => true
  | _, _ => false
def isZCs : Scs → List Value → Bool
  | .nil, [] => true
  | .cons s r, v :: l => isZS s v && isZCs r l
  | _, _ => false
def isZV : VT → Value → Bool
  | .sc s, v => isZS s v
  | .ag cs, .agg l => isZCs cs l.toList
  | _, _ => false
theorem isZS_ok : ∀ {s : Sc} {v : Value}, isZS s v = true → v = zeroS s := by
  intro s v h
  unfold isZS at h
  split at h
  · simp at h; obtain ⟨h1, h2⟩ := h; subst h1; subst h2; rfl
  · simp at h; subst h; rfl
  · rename_i s'
    have h := Nat.eq_of_beq_eq_true h
    have : s' = ByteArray.empty := by
      obtain ⟨d⟩ := s'
      have : d = #[] := Array.eq_empty_of_size_eq_zero h
      subst this; rfl
    subst this; rfl
  · rfl
  · rfl
  · cases h
theorem isZCs_ok : ∀ {cs : Scs} {l : List Value}, isZCs cs l = true → l = zeroCs cs
  | .nil, [], _ => rfl
  | .nil, _ :: _, h => by cases h
  | .cons _ _, [], h => by cases h
  | .cons s r, v :: l, h => by
    simp only [isZCs, Bool.and_eq_true] at h
    rw [isZS_ok h.1, isZCs_ok h.2]; rfl
theorem isZV_ok {t : VT} {v : Value} (h : isZV t v = true) : v = zeroV t := by
  cases t with
  | sc s => exact isZS_ok h
  | ag cs =>
    cases v with
    | agg l =>
      have := isZCs_ok (show isZCs cs l.toList = true from h)
      simp only [zeroV]; rw [← this]
    | _ => cases h

def aggD : TypeDesc → Bool
  | .struct _ | .array _ _ => true
  | _ => false
/-- A type's cells, and whether they are more than a cell. -/
def sizeB (P : Program) (T : TypeId) (n : Nat) (ag : Bool) : Bool := match P.info? T, P.underlying T with
  | some i, some d => Nat.beq i.size n && (aggD d == ag)
  | _, _ => false
def zeroB (P : Program) (T : TypeId) (t : VT) : Bool := match P.info? T with
  | some i => match i.zero with
    | some z => isZV t z
    | none => false
  | none => false
def fldsB (P : Program) : List Field → List (Nat × Nat × Bool) → Bool
  | [], [] => true
  | f :: fs, (off, n, ag) :: l => Nat.beq f.offset off && sizeB P f.type n ag && fldsB P fs l
  | _, _ => false
def tyB (P : Program) (T : TypeId) (ti : TI) : Bool :=
  sizeB P T ti.vt.size ti.vt.isAg && zeroB P T ti.vt && (match P.underlying T with
    | some d => match ti.vt, d with
      | .sc (.int k), .int k' => decide (k = k') && ti.flds.isEmpty && Nat.beq ti.arr.1 0
      | .sc .bool, .bool => ti.flds.isEmpty && Nat.beq ti.arr.1 0
      | .sc .str, .string => ti.flds.isEmpty && Nat.beq ti.arr.1 0
      | .sc (.sl e), .slice T' => sizeB P T' e.size e.isAg && zeroB P T' e && ti.flds.isEmpty && Nat.beq ti.arr.1 0 && (match P.info? T' with
        | some i => Nat.beq i.bytes ti.eb
        | none => false)
      | .sc (.fn _ _), .func _ _ _ => ti.flds.isEmpty && Nat.beq ti.arr.1 0
      | .ag _, .struct fs => fldsB P fs.toList ti.flds && Nat.beq ti.arr.1 0
      | .ag _, .array n T' => ti.flds.isEmpty && Nat.beq ti.arr.1 n && sizeB P T' ti.arr.2.1 ti.arr.2.2
      | _, _ => false
    | none => false)
def tysB (P : Program) : List (TypeId × TI) → Bool
  | [] => true
  | (T, ti) :: l => tyB P T ti && tysB P l
theorem tysB_ok {P : Program} : ∀ {l : List (TypeId × TI)}, tysB P l = true → ∀ T ti, look l T = some ti → tyB P T ti = true
  | [], _, T, ti, h => by cases h
  | (T', ti') :: l, hb, T, ti, h => by
    simp only [tysB, Bool.and_eq_true] at hb
    rw [look_cons] at h
    split at h
    · rename_i e; subst e; cases h; exact hb.1
    · exact tysB_ok hb.2 T ti h

section
variable {P : Program} {Z : At0} {X : Cx} {st : St} {a : Act} {w w' : World} {T : TypeId} {ti : TI} {n : Nat} {ag : Bool}

theorem sizeB_ok (h : sizeB P T n ag = true) : ∃ i d, P.info? T = some i ∧ P.underlying T = some d ∧ i.size = n ∧ aggD d = ag := by
  unfold sizeB at h
  split at h
  · rename_i i d hi hd
    simp only [Bool.and_eq_true, beq_iff_eq] at h
    exact ⟨i, d, hi, hd, Nat.eq_of_beq_eq_true h.1, h.2⟩
  · cases h
theorem zeroB_ok {t : VT} (h : zeroB P T t = true) : ∃ i, P.info? T = some i ∧ i.zero = some (zeroV t) := by
  unfold zeroB at h
  split at h
  · rename_i i hi
    split at h
    · rename_i z hz
      exact ⟨i, hi, by rw [hz, isZV_ok h]⟩
    · cases h
  · cases h
theorem run_typeInfo {i : TypeInfo} (h : P.info? T = some i) (w : World) : (typeInfo T).run P w = .ok i w := by
  simp [typeInfo, h]
theorem run_sizeOf (h : sizeB P T n ag = true) (w : World) : (sizeOf T).run P w = .ok n w := by
  obtain ⟨i, d, hi, _, rfl, _⟩ := sizeB_ok h
  simp [sizeOf, typeInfo, hi]
theorem run_isAgg (h : sizeB P T n ag = true) (w : World) : (isAgg T).run P w = .ok ag w := by
  obtain ⟨i, d, _, hd, _, rfl⟩ := sizeB_ok h
  unfold isAgg
  rw [Sem.run_bind, run_underlying hd w]
  cases d <;> rfl
theorem run_zeroValue {t : VT} (h : zeroB P T t = true) (w : World) : (zeroValue T).run P w = .ok (zeroV t) w := by
  obtain ⟨i, hi, hz⟩ := zeroB_ok h
  simp [zeroValue, typeInfo, hi, hz]
theorem tyB_size (h : tyB P T ti = true) : sizeB P T ti.vt.size ti.vt.isAg = true := by
  simp only [tyB, Bool.and_eq_true] at h; exact h.1.1
theorem tyB_zero (h : tyB P T ti = true) : zeroB P T ti.vt = true := by
  simp only [tyB, Bool.and_eq_true] at h; exact h.1.2

theorem add_at (b off j : Nat) : (⟨b, off, none⟩ : Addr).add j = ⟨b, off + j, none⟩ := by unfold Addr.add; split <;> simp_all

/-- Cells that lie one behind another. -/
def Lie (w : World) (b off : Nat) (us : List Value) : Prop := ∀ j u, us[j]? = some u → w.cell? ⟨b, off + j, none⟩ = some u
theorem Lie.load {us : List Value} {b off : Nat} (h : Lie w b off us) : (Go.loadCells ⟨b, off, none⟩ us.length).run P w = .ok us.toArray w :=
  run_loadCells_list (P := P) w _ us fun j v hj => by rw [add_at]; exact h j v hj
theorem Lie.take {us : List Value} {b off n : Nat} (h : Lie w b off us) : Lie w b off (us.take n) := fun j u hj => h j u (by
  rw [List.getElem?_take] at hj
  split at hj
  · exact hj
  · cases hj)
theorem CellsAt.lie {bs : List (Nat × Buf)} : ∀ {cs : List DC} {b off : Nat}, CellsAt P X.O X.F w cs b off → ∃ us, All2 (RelK P X bs w) (cs.map .d) us ∧ Lie w b off us
  | [], b, off, _ => ⟨[], trivial, fun j u h => by simp at h⟩
  | c :: cs, b, off, h => by
    obtain ⟨u, hu, hr⟩ := h 0 c rfl
    obtain ⟨us, h1, h2⟩ := CellsAt.lie (bs := bs) (cs := cs) (b := b) (off := off + 1) fun j c' hj => by
      have := h (j + 1) c' (by simpa using hj)
      rwa [show off + (j + 1) = off + 1 + j by omega] at this
    have hr : RelC P X bs w (.d c) u := hr
    refine ⟨u :: us, ⟨⟨hr, hr.one (by simp) (by simp)⟩, h1⟩, fun j u' hj => ?_⟩
    cases j with
    | zero => simp at hj; subst hj; exact hu
    | succ j =>
      have := h2 j u' (by simpa using hj)
      rwa [show off + 1 + j = off + (j + 1) by omega] at this
/-- A load. -/
theorem run_loadVar {bs : List (Nat × Buf)} (ht : sizeB P T n ag = true) {cs : List PC} {us : List Value} {b off : Nat} (hc : All2 (RelK P X bs w) cs us) (hl : Lie w b off us) {pv : PV} (h : loadCells ag n cs = some pv) :
    ∃ v, (loadVar T ⟨b, off, none⟩).run P w = .ok v w ∧ RelP P X bs w pv v := by
  have h1 := run_isAgg ht w
  have h2 := run_sizeOf ht w
  cases ag with
  | true =>
    have h : cond (Nat.ble n cs.length) (some (PV.agg (cs.take n))) none = some pv := h
    cases e : Nat.ble n cs.length with
    | false => rw [e] at h; cases h
    | true =>
      rw [e] at h
      have h := Option.some.inj h
      subst h
      have hle := Nat.le_of_ble_eq_true e
      have hlen := All2.length hc
      have h3 : (Go.loadCells ⟨b, off, none⟩ n).run P w = .ok (us.take n).toArray w := by
        have := Lie.load (P := P) (hl.take (n := n))
        rwa [List.length_take, Nat.min_eq_left (by omega)] at this
      refine ⟨.agg (us.take n).toArray, by simp [loadVar, h1, h2, h3], (us.take n).toArray, rfl, by simpa using All2.take n hc⟩
  | false =>
    cases cs with
    | nil => cases h
    | cons c cs =>
      cases us with
      | nil => exact hc.elim
      | cons u us =>
        have h := Option.some.inj (show some (PV.s c) = some pv from h)
        subst h
        have := hl 0 u rfl
        simp only [Nat.add_zero] at this
        exact ⟨u, by simp [loadVar, h1, run_load, this], hc.1.1⟩
/-- A part of a value. -/
theorem run_part {bs : List (Nat × Buf)} (ht : sizeB P T n ag = true) {ps : List PC} {cells : Array Value} {off : Nat} (hc : All2 (RelK P X bs w) ps cells.toList) {pv : PV} (h : loadCells ag n (ps.drop off) = some pv) :
    ∃ v, (part T cells off).run P w = .ok v w ∧ RelP P X bs w pv v := by
  have h1 := run_isAgg ht w
  have h2 := run_sizeOf ht w
  have hd := All2.drop off hc
  cases ag with
  | true =>
    have h : cond (Nat.ble n (ps.drop off).length) (some (PV.agg ((ps.drop off).take n))) none = some pv := h
    cases e : Nat.ble n (ps.drop off).length with
    | false => rw [e] at h; cases h
    | true =>
      rw [e] at h
      have h := Option.some.inj h
      subst h
      refine ⟨.agg (cells.extract off (off + n)), by simp [part, h1, h2], _, rfl, ?_⟩
      have : (cells.extract off (off + n)).toList = (cells.toList.drop off).take n := by
        simp [Array.toList_extract]
      rw [this]
      exact All2.take n hd
  | false =>
    cases e : ps.drop off with
    | nil => rw [e] at h; cases h
    | cons c cs =>
      rw [e] at h hd
      have h := Option.some.inj (show some (PV.s c) = some pv from h)
      subst h
      cases e2 : cells.toList.drop off with
      | nil => rw [e2] at hd; exact hd.elim
      | cons u us =>
        rw [e2] at hd
        have h3 : cells[off]? = some u := by
          have : (cells.toList.drop off)[0]? = some u := by rw [e2]; rfl
          simpa using this
        exact ⟨u, by simp [part, h1, h3], hd.1.1⟩
end
end Go.PgAM
