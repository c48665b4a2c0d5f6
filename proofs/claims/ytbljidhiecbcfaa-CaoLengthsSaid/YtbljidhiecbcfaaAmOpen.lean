/-
  Arguments that can be read as data, as the machine's values.
-/
import Derived.Test.YtbljidhiecbcfaaAmSound
import Derived.ProofKit
import Derived.Deep.Slices
import Derived.OpenShut
namespace Go.PgAM
open Go Go.RowKit Go.Deep
set_option linter.unusedVariables false
set_option linter.unusedSimpArgs false

def Scs.ofL : List Sc → Scs
  | [] => .nil
  | s :: l => .cons s (Scs.ofL l)
def repL {α : Type} (l : List α) : Nat → List α
  | 0 => []
  | n + 1 => l ++ repL l n
def isAggT (P : Program) (T : TypeId) : Bool := match P.underlying T with
  | some d => aggD d
  | none => false
def vtOf (ag : Bool) (l : List Sc) : Option VT := match ag, l with
  | true, l => some (.ag (Scs.ofL l))
  | false, [s] => some (.sc s)
  | false, _ => none
def scF (P : Program) (g : TypeId → Option (List Sc)) : List Field → Nat → Option (List Sc)
  | [], _ => some []
  | f :: fs, off => cond (Nat.beq f.offset off) (match g f.type with
    | some l => cond (Nat.beq l.length (P.cellsOf f.type)) (match scF P g fs (off + l.length) with
      | some r => some (l ++ r)
      | none => none) none
    | none => none) none
/-- The cells of a type. -/
def scT (P : Program) : Nat → TypeId → Option (List Sc)
  | 0, _ => none
  | n + 1, T => match P.underlying T with
    | some .bool => some [.bool]
    | some (.int k) => some [.int k]
    | some .string => some [.str]
    | some (.slice E) => match scT P n E with
      | some l => cond (Nat.beq l.length (P.cellsOf E) && Nat.ble 1 l.length) (match vtOf (isAggT P E) l with
        | some v => some [.sl v]
        | none => none) none
      | none => none
    | some (.struct fs) => match scF P (scT P n) fs.toList 0 with
      | some l => cond (Nat.beq l.length (P.cellsOf T)) (some l) none
      | none => none
    | some (.array k E) => match scT P n E with
      | some l => cond (Nat.beq l.length (P.cellsOf E) && Nat.beq (k * l.length) (P.cellsOf T)) (some (repL l k)) none
      | none => none
    | _ => none
/-- A type's shape. -/
def vtT (P : Program) (n : Nat) (T : TypeId) : Option VT := match scT P n T with
  | some l => vtOf (isAggT P T) l
  | none => none

mutual
/-- Numbers are such as their kinds have, and nothing is longer than may be. -/
def Sc.wf : (s : Sc) → s.I → Prop
  | .int k, x => k.min ≤ (show Int from x) ∧ (show Int from x) ≤ k.max
  | .bool, _ => True
  | .str, x => (show ByteArray from x).size ≤ maxLen
  | .sl e, xs => List.length (α := e.I) xs ≤ maxLen ∧ ∀ y, y ∈ (show List e.I from xs) → VT.wf e y
  | .fn _ _, _ => True
def VT.wf : (t : VT) → t.I → Prop
  | .sc s, x => Sc.wf s x
  | .ag cs, x => Scs.wf cs x
def Scs.wf : (t : Scs) → t.I → Prop
  | .nil, _ => True
  | .cons s .nil, x => Sc.wf s x
  | .cons s (.cons s' r), x => Sc.wf s x.1 ∧ Scs.wf (.cons s' r) x.2
end

section
variable {H : Type} {enc : TypeId × Value → H} {P : Program} {w : World} {spare : Nat → Bool} {held : Bool} {F : Nat → Nat} {O : Nat → Prop}

/-- All of memory is frozen. -/
def allF (w : World) : Nat → Nat := fun b => if b < w.heap.size then rowLen w b else 0
def CellR (P : Program) (O : Nat → Prop) (F : Nat → Nat) (w : World) (s : Sc) (v : Value) : Prop := ∃ y : s.I, RepS P s O F w y v ∧ Sc.wf s y
theorem all2_rep : ∀ {l : List Sc} {cs : List Value}, All2 (CellR P O F w) l cs → ∃ y : (Scs.ofL l).I, RepCs P (Scs.ofL l) O F w y (fun j => cs[j]?) ∧ Scs.wf (Scs.ofL l) y
  | [], _, _ => ⟨(), by simp only [Scs.ofL, RepCs], by simp only [Scs.ofL, Scs.wf]⟩
  | [s], v :: cs, h => by
    obtain ⟨y, h1, h2⟩ := h.1
    exact ⟨y, by simp only [Scs.ofL, RepCs]; exact ⟨v, rfl, h1⟩, by simp only [Scs.ofL, Scs.wf]; exact h2⟩
  | s :: s' :: l, v :: cs, h => by
    obtain ⟨y, h1, h2⟩ := h.1
    obtain ⟨z, h3, h4⟩ := all2_rep (l := s' :: l) h.2
    refine ⟨(y, z), ?_, ?_⟩
    · show RepCs P (.cons s (Scs.ofL (s' :: l))) O F w (y, z) _
      simp only [Scs.ofL, RepCs]
      exact ⟨⟨v, rfl, h1⟩, by simpa [Scs.ofL] using h3⟩
    · show Scs.wf (.cons s (Scs.ofL (s' :: l))) (y, z)
      simp only [Scs.ofL, Scs.wf]
      exact ⟨h2, h4⟩
  | _ :: _, [], h => h.elim
theorem ofL_size : ∀ (l : List Sc), (Scs.ofL l).size = l.length
  | [] => rfl
  | s :: l => by simp [Scs.ofL, Scs.size, ofL_size l]
theorem vtOf_size {ag : Bool} {l : List Sc} {v : VT} (h : vtOf ag l = some v) : v.size = l.length := by
  unfold vtOf at h
  split at h
  · cases h; exact ofL_size _
  · cases h; rfl
  · cases h
theorem vtOf_rep {ag : Bool} {l : List Sc} {v : VT} {cs : List Value} (h : vtOf ag l = some v) (hc : All2 (CellR P O F w) l cs) : ∃ y : v.I, RepV P v O F w y (fun j => cs[j]?) ∧ VT.wf v y := by
  unfold vtOf at h
  split at h
  · cases h
    obtain ⟨y, h1, h2⟩ := all2_rep hc
    exact ⟨y, by simp only [RepV]; exact h1, by simp only [VT.wf]; exact h2⟩
  · rename_i s
    cases h
    match cs, hc with
    | [v], hc =>
      obtain ⟨y, h1, h2⟩ := hc.1
      exact ⟨y, by simp only [RepV]; exact ⟨v, rfl, h1⟩, by simp only [VT.wf]; exact h2⟩
  · cases h
theorem list_of {α : Type} {Q : Nat → α → Prop} : ∀ (n : Nat), (∀ i, i < n → ∃ y, Q i y) → ∃ xs : List α, xs.length = n ∧ ∀ i (h : i < xs.length), Q i (List.get xs ⟨i, h⟩)
  | 0, _ => ⟨[], rfl, fun i h => by simp at h⟩
  | n + 1, h => by
    obtain ⟨xs, h1, h2⟩ := list_of n fun i hi => h i (by omega)
    obtain ⟨y, hy⟩ := h n (by omega)
    refine ⟨xs ++ [y], by simp [h1], fun i hi => ?_⟩
    by_cases hc : i < xs.length
    · have hg : List.get (xs ++ [y]) ⟨i, hi⟩ = List.get xs ⟨i, hc⟩ := by simp only [List.get_eq_getElem]; exact List.getElem_append_left hc
      rw [hg]; exact h2 i hc
    · have e : i = n := by simp at hi; omega
      subst e
      have hg : List.get (xs ++ [y]) ⟨i, hi⟩ = y := by
        simp only [List.get_eq_getElem]
        rw [List.getElem_append_right (by omega)]
        simp
      rw [hg]; exact hy
theorem rep_take {R : Sc → Value → Prop} {l : List Sc} {cs : List Value} : ∀ (k off : Nat), (∀ i, i < k → All2 R l ((cs.drop (off + i * l.length)).take l.length)) → All2 R (repL l k) ((cs.drop off).take (k * l.length))
  | 0, off, h => by simp [repL, All2]
  | k + 1, off, h => by
    have h0 := h 0 (by omega)
    simp only [Nat.zero_mul, Nat.add_zero] at h0
    have ih := rep_take k (off + l.length) fun i hi => by
      have := h (i + 1) (by omega)
      rwa [show off + (i + 1) * l.length = off + l.length + i * l.length by rw [Nat.succ_mul]; omega] at this
    have e : (cs.drop off).take ((k + 1) * l.length) = (cs.drop off).take l.length ++ (cs.drop (off + l.length)).take (k * l.length) := by
      rw [Nat.succ_mul, Nat.add_comm (k * l.length), List.take_add, List.drop_drop]
    rw [e]
    exact All2.append h0 ih

theorem trod_cells : ∀ (n : Nat) {T : TypeId} {l : List Sc} {fuel : Nat} {cs : List Value} {x : DataW H × List MemPlace}, DataW.trod enc P w 0 spare held fuel T cs = some x → scT P n T = some l → All2 (CellR P O (allF w) w) l cs
  | 0, T, l, fuel, cs, x, h, hs => by cases hs
  | n + 1, T, l, fuel, cs, x, h, hs => by
    simp only [scT] at hs
    split at hs
    · rename_i hu
      cases hs
      obtain ⟨b, rfl, _⟩ := DataW.trod_bool hu h
      exact ⟨⟨b, by simp only [RepS], by simp only [Sc.wf]⟩, trivial⟩
    · rename_i k hu
      cases hs
      obtain ⟨m, rfl, _, hw⟩ := DataW.trod_int hu h
      simp only [Lit.wf, Bool.and_eq_true, decide_eq_true_eq] at hw
      exact ⟨⟨m, by simp only [RepS], by simp only [Sc.wf]; exact hw⟩, trivial⟩
    · rename_i hu
      cases hs
      obtain ⟨s, rfl, _, hw⟩ := DataW.trod_string hu h
      exact ⟨⟨s, by simp only [RepS], by simp only [Sc.wf]; exact hw⟩, trivial⟩
    · rename_i e hu
      split at hs
      · rename_i le hle
        obtain ⟨hc, hs⟩ := cond_some hs
        simp only [Bool.and_eq_true] at hc
        have hc1 := Nat.eq_of_beq_eq_true hc.1
        have hc2 := Nat.le_of_ble_eq_true hc.2
        split at hs
        · rename_i v hv
          cases hs
          have hvs := vtOf_size hv
          rcases open_slice hu h with ⟨rfl, _⟩ | ⟨a, len, cap, m, n', D, Pl, rfl, _, hlc, hcm, hm, _, hi⟩
          · refine ⟨⟨([] : List v.I), ?_, ?_⟩, trivial⟩
            · simp only [RepS]; exact ⟨none, 0, rfl, Nat.le_refl _, .inl rfl⟩
            · simp only [Sc.wf]; exact ⟨Nat.zero_le _, fun y hy => by cases hy⟩
          · have hlm : len ≤ m := by rw [hm]; split <;> omega
            have hcells : ∀ i, i < len → ∃ cs' : List Value, (∀ j, j < v.size → w.cell? (a.add (i * v.size + j)) = cs'[j]?) ∧ cs'.length = v.size ∧ ∃ y : v.I, RepV P v O (allF w) w y (fun j => cs'[j]?) ∧ VT.wf v y := by
              intro i hil
              obtain ⟨cs', k1, k2⟩ := hi i (by omega)
              obtain ⟨_, k3, k4⟩ := World.cells?_some k1
              have k5 := trod_cells n k2 hle
              refine ⟨cs', fun j hj => ?_, by rw [k3, ← hc1, hvs], vtOf_rep hv k5⟩
              have := k4 j (by rw [← hc1, ← hvs]; exact hj)
              rw [← hc1, ← hvs, add_add] at this
              exact this
            have hspot : 0 < len → a.spot = none := by
              intro hl
              obtain ⟨cs', k1, k2, _⟩ := hcells 0 hl
              have := k1 0 (by omega)
              have hs : cs'[0]? ≠ none := by
                rw [List.getElem?_eq_getElem (by omega)]; simp
              rw [← this] at hs
              cases e : a.spot with
              | none => rfl
              | some sp =>
                exfalso; apply hs
                unfold World.cell?
                have : (a.add (0 * v.size + 0)).spot.isSome = true := by unfold Addr.add; split <;> simp_all
                simp only [this, if_true]
                split <;> rfl
            obtain ⟨xs, x1, x2⟩ := list_of (Q := fun i (y : v.I) => RepV P v O (allF w) w y (fun j => w.cell? (a.add (i * v.size + j))) ∧ VT.wf v y) len fun i hil => by
              obtain ⟨cs', k1, k2, y, k3, k4⟩ := hcells i hil
              exact ⟨y, RepV.mono (fun _ h => h) (fun _ => Nat.le_refl _) (Keeps.refl _ _ _) v _ _ _ (fun j hj => (k1 j hj).symm) k3, k4⟩
            refine ⟨⟨xs, ?_, ?_⟩, trivial⟩
            · simp only [RepS]
              have x1' : List.length (α := v.I) xs = len := x1
              refine ⟨some a, cap, by rw [x1'], by rw [x1']; exact hlc, ?_⟩
              rcases Nat.eq_zero_or_pos len with h0 | h0
              · exact .inl (by rw [x1']; exact h0)
              · right
                have hsp := hspot h0
                obtain ⟨b, off, sp⟩ := a
                simp only at hsp
                subst hsp
                refine ⟨b, off, rfl, ?_, fun i hi => ?_⟩
                · rw [x1']
                  obtain ⟨cs', k1, k2, _⟩ := hcells (len - 1) (by omega)
                  have hl := k1 (v.size - 1) (by omega)
                  rw [add_at, List.getElem?_eq_getElem (by omega)] at hl
                  unfold World.cell? at hl
                  split at hl
                  · rename_i cs el fr hb
                    simp only [Option.isSome_none, Bool.false_eq_true, if_false] at hl
                    have hlt := (Array.getElem?_eq_some_iff.1 hl).1
                    have hbl := lt_of_heap hb
                    unfold allF rowLen
                    rw [if_pos hbl, hb]
                    simp only
                    have e1 : (len - 1) * v.size + v.size = len * v.size := by
                      rw [← Nat.succ_mul]; congr 1; omega
                    omega
                  · cases hl
                · have := (x2 i hi).1
                  refine RepV.mono (fun _ h => h) (fun _ => Nat.le_refl _) (Keeps.refl _ _ _) v _ _ _ (fun j hj => ?_) this
                  rw [add_at, Nat.add_assoc]
            · simp only [Sc.wf]
              refine ⟨by show xs.length ≤ maxLen; rw [x1]; omega, fun y hy => ?_⟩
              obtain ⟨i, hi⟩ := List.mem_iff_get.1 hy
              rw [← hi]; exact (x2 i.1 i.2).2
        · cases hs
      · cases hs
    · rename_i fs hu
      split at hs
      · rename_i l' hl'
        obtain ⟨hc, hs⟩ := cond_some hs
        cases hs
        have hc := Nat.eq_of_beq_eq_true hc
        obtain ⟨xs, n', _, _, hlen, hxl, hf⟩ := DataW.trod_struct hu h
        have key : ∀ (gs : List Field) (off : Nat) (l' : List Sc), (∀ f ∈ gs, f ∈ fs.toList) → scF P (scT P n) gs off = some l' → All2 (CellR P O (allF w) w) l' ((cs.drop off).take l'.length) := by
          intro gs
          induction gs with
          | nil => intro off l' _ hl; cases hl; simp [All2]
          | cons f gs ih =>
            intro off l' hm hl
            simp only [scF] at hl
            obtain ⟨ho, hl⟩ := cond_some hl
            have ho := Nat.eq_of_beq_eq_true ho
            split at hl
            · rename_i l1 hl1
              obtain ⟨hz, hl⟩ := cond_some hl
              have hz := Nat.eq_of_beq_eq_true hz
              split at hl
              · rename_i r hr
                cases hl
                obtain ⟨i, hi⟩ := List.mem_iff_getElem?.1 (hm f (by simp))
                have hi' : fs[i]? = some f := by simpa using hi
                have hit := hf i f hi'
                have hil : i < xs.length := by rw [hxl]; exact (Array.getElem?_eq_some_iff.1 hi').1
                rw [List.getElem?_eq_getElem hil] at hit
                have h1 := trod_cells n hit hl1
                rw [ho, ← hz] at h1
                have h2 := ih (off + l1.length) r (fun g hg => hm g (by simp [hg])) hr
                have e : (cs.drop off).take (l1 ++ r).length = (cs.drop off).take l1.length ++ (cs.drop (off + l1.length)).take r.length := by
                  rw [List.length_append, List.take_add, List.drop_drop]
                rw [e]
                exact All2.append h1 h2
              · cases hl
            · cases hl
        have := key fs.toList 0 l (fun f hf => hf) hl'
        rw [List.drop_zero, hc, ← hlen, List.take_length] at this
        exact this
      · cases hs
    · rename_i k e hu
      split at hs
      · rename_i le hle
        obtain ⟨hc, hs⟩ := cond_some hs
        cases hs
        simp only [Bool.and_eq_true] at hc
        have hc1 := Nat.eq_of_beq_eq_true hc.1
        have hc2 := Nat.eq_of_beq_eq_true hc.2
        obtain ⟨xs, n', _, _, hlen, hxl, hf⟩ := DataW.trod_array hu h
        have := rep_take (R := CellR P O (allF w) w) (l := le) (cs := cs) k 0 fun i hi => by
          have hit := hf i hi
          rw [List.getElem?_eq_getElem (by omega)] at hit
          have h1 := trod_cells n hit hle
          rw [← hc1] at h1
          rw [Nat.zero_add]; exact h1
        rw [List.drop_zero, hc2, ← hlen, List.take_length] at this
        exact this
      · cases hs
    · cases hs

/-- An argument. -/
theorem arg_open {n : Nat} {T : TypeId} {r : Reach} {base : Nat} {v : Value} {d : DataW H} {ps : List MemPlace} {t : VT} (hok : Value.okWide P w r base T v) (h : DataW.Trod enc P w 0 spare held T v d ps) (ht : vtT P n T = some t) :
    ∃ x : t.I, VT.wf t x ∧ ArgOk P O (allF w) w (.d t) x v none := by
  obtain ⟨fuel, h⟩ := h
  unfold vtT at ht
  split at ht
  · rename_i l hl
    have hc := trod_cells (O := O) n h hl
    obtain ⟨y, h1, h2⟩ := vtOf_rep ht hc
    refine ⟨y, h2, rfl, ?_⟩
    cases ha : isAggT P T with
    | true =>
      rw [ha] at ht
      cases ht
      have hv : ∃ cs, v = .agg cs := by
        unfold isAggT at ha
        split at ha
        · rename_i d' hd
          unfold Value.okWide at hok
          rw [hd] at hok
          cases d' <;> simp only [aggD, Bool.false_eq_true] at ha <;> exact ⟨_, hok.choose_spec.1⟩
        · cases ha
      obtain ⟨cs, rfl⟩ := hv
      have hlen := All2.length hc
      refine ⟨fun j => cs[j]?, ⟨cs, rfl, ?_, rfl⟩, ?_⟩
      · rw [ofL_size, hlen]; simp [Value.cells]
      · simpa [Value.cells] using h1
    | false =>
      rw [ha] at ht
      unfold vtOf at ht
      split at ht
      · rename_i hb; cases hb
      · rename_i s
        cases ht
        have hone : ∃ u, v.cells.toList = [u] ∧ u.oneCell' = true := by
          match hcl : v.cells.toList, hc with
          | [u], hc =>
            obtain ⟨y, h3, _⟩ := hc.1
            exact ⟨u, rfl, h3.one⟩
        obtain ⟨u, hu, ho⟩ := hone
        have hvu : v = u := by
          cases v with
          | agg cs =>
            exfalso
            unfold isAggT at ha
            split at ha
            · rename_i d' hd
              unfold Value.okWide at hok
              rw [hd] at hok
              cases d' <;> simp_all [aggD, Cell.okWide, Cell.ok]
            · rename_i hd
              unfold Value.okWide at hok
              rw [hd] at hok
              simp [Cell.okWide, Cell.ok, hd] at hok
          | _ => simpa [Value.cells] using hu
        subst hvu
        refine ⟨fun _ => some v, rfl, ?_⟩
        rw [hu] at h1
        simp only [RepV] at h1 ⊢
        exact h1
      · cases ht
  · cases ht
theorem Evo.below {F F' : Nat → Nat} {w w' : World} (e : Evo [] F F' w w') : RowKit.Below w.heap.size w w' := ⟨e.os, e.tape, e.output, e.size, fun k hk => e.block k hk (by simp)⟩
theorem allF_new (w : World) : ∀ b, w.heap.size ≤ b → allF w b = 0 := fun b hb => by
  unfold allF; rw [if_neg (by omega)]
end
end Go.PgAM
