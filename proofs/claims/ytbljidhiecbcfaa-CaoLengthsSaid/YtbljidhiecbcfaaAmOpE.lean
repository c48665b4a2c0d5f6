/-
  Operations, one by one: append.
-/
import Derived.Test.YtbljidhiecbcfaaAmOpD
namespace Go.PgAM
open Go Go.RowKit
set_option linter.unusedVariables false
set_option linter.unusedSimpArgs false
variable {P : Program} {E : Env} {Z : At0} {X : Cx} {st st' : St} {a : Act} {w w' : World} {o : Oper} {next : Act → World → Prop} {Q : Exit → Act → World → Prop}

theorem Rel.drew (h : Rel P Z X st a w) : Rel P Z X st a w.drew :=
  h.grow (F' := X.F) ⟨rfl, rfl, Nat.le_succ _, rfl, Nat.le_refl _, fun _ _ _ => rfl, fun _ _ _ => rfl, fun _ => Nat.le_refl _, h.fnew⟩
/-- A new block becomes a buffer. -/
theorem Rel.newBlock' (h : Rel P Z X st a w) {d n : Nat} {x : Bool} {e : VT} {xs : List e.I} {cells : Array Value} {T : TypeId} (hlen : xs.length ≤ n) (hsz : cells.size = n * e.size)
    (hel : ∀ i (hi : i < xs.length), RepV P e X.O X.F w (List.get xs ⟨i, hi⟩) (fun j => cells[i * e.size + j]?)) :
    Rel P Z { X with β := upd X.β d (some (w.heap.size, n)) } (st.newBuf d ⟨x, e, xs⟩) a (w.alloc (.cells cells T)) := by
  have e1 := alloc_evo X.F w (.cells cells T) h.fnew
  have g := h.grow e1
  refine g.newBuf d ⟨x, e, xs⟩ (some (w.heap.size, n)) ?_ (fun b cap eq r c hr => ?_) (fun b cap eq t B' b' cap' hne hB hb => ?_)
  · simp only [BufOk, upd_same]
    refine ⟨fun hO => ?_, by simp [h.fnew _ (Nat.le_refl _)], hlen, cells, T, alloc_new w _, hsz, fun i hi => ?_⟩
    · have := h.oldO _ hO; omega
    · exact RepV.mono (fun _ h => h) (fun _ => Nat.le_refl _) (e1.keeps h.oldO h.fnew) e _ _ _ (fun _ _ => rfl) (hel i hi)
  · cases eq
    have := h.row_lt hr
    exact fun e => by simp at e; omega
  · cases eq
    have := h.buf_lt hB hb
    omega
theorem app_el {O : Nat → Prop} {F : Nat → Nat} {e : VT} {xs ys : List e.I} {g : Nat → Option Value}
    (h1 : ∀ i (h : i < xs.length), RepV P e O F w (List.get xs ⟨i, h⟩) (fun j => g (i * e.size + j)))
    (h2 : ∀ i (h : i < ys.length), RepV P e O F w (List.get ys ⟨i, h⟩) (fun j => g ((xs.length + i) * e.size + j))) :
    ∀ i (h : i < (xs ++ ys).length), RepV P e O F w (List.get (xs ++ ys) ⟨i, h⟩) (fun j => g (i * e.size + j)) := by
  intro i hi
  by_cases hc : i < xs.length
  · have hg : List.get (xs ++ ys) ⟨i, hi⟩ = List.get xs ⟨i, hc⟩ := by
      simp only [List.get_eq_getElem]; exact List.getElem_append_left hc
    rw [hg]; exact h1 i hc
  · have hl : i - xs.length < ys.length := by simp at hi; omega
    have hg : List.get (xs ++ ys) ⟨i, hi⟩ = List.get ys ⟨i - xs.length, hl⟩ := by
      simp only [List.get_eq_getElem]; exact List.getElem_append_right (by omega)
    rw [hg]
    have := h2 _ hl
    rwa [show xs.length + (i - xs.length) = i by omega] at this
theorem setRow_keeps {O : Nat → Prop} {F : Nat → Nat} {b : Nat} {cs cs' : Array Value} {el : TypeId} (hh : w.heap[b]? = some (.cells cs el (0, 0))) (hO : ¬ O b) (hfz : ∀ o, o < F b → cs'[o]? = cs[o]?) : Keeps O F w (w.setRow b cs') := by
  have hnew := setRow_heap w b cs cs' el (0, 0) hh
  have hoth : ∀ b', b' ≠ b → (w.setRow b cs').heap[b']? = w.heap[b']? := fun b' hb' => setRow_other w _ b' _ hb'
  refine ⟨by simp, fun b' hb' => hoth b' fun e => hO (e ▸ hb'), fun b' o ho => ?_⟩
  by_cases e : b' = b
  · subst e; simp only [World.cell?, hnew, hh]; simpa using hfz o ho
  · exact cell_of_heap (hoth b' e)

theorem Rel.append (h : Rel P Z X st a w) {tok : Nat} {x : Bool} {e : VT} {xs xs' : List e.I} (hB : look st.b tok = some ⟨x, e, xs⟩) (hpre : xs' = xs ∨ (x = true ∧ ∃ k, xs' = xs.take k))
    {v u : Value} (hv : SlAt X.β tok xs'.length v) {ys : List e.I} (hsrc : Src P X w e ys u)
    {T T2 T' T2' ty : TypeId} {i : TypeInfo} {z : Value} (hu : P.underlying T = some (.slice T')) (hu2 : P.underlying T2 = some (.slice T2')) (hi : P.info? T' = some i) (hz : i.zero = some z) (hzs : z.cells.size = e.size) (hsz : i.size = e.size) (hby : 1 ≤ i.bytes)
    {ts : Array TypeId} (h0 : ts[0]? = some T) (h1 : ts[1]? = some T2) (hroom : (xs'.length + ys.length) * i.bytes ≤ room) :
    ∃ v' w' X', (Builtin.append_ ts ty #[v, u]).run P w = .ok v' w' ∧ Rel P Z X' { st.kill (PC.atTok tok) with b := Go.PgAM.put st.b tok ⟨x, e, xs' ++ ys⟩ } a w' ∧ SlAt X'.β tok (xs' ++ ys).length v' := by
  obtain ⟨ax, c, us, rfl, hul, hfc, hone, hel⟩ := hsrc
  have hroom' : room = 140737488355328 := rfl
  have hnm : xs'.length + ys.length ≤ room := Nat.le_trans (by have := Nat.mul_le_mul_left (xs'.length + ys.length) hby; simpa using this) hroom
  have hlen' : (xs' ++ ys).length = xs'.length + ys.length := by simp
  -- a new block
  have grown : ∀ (base : Option Addr) (cap : Nat) (olds : List Value), cap < xs'.length + ys.length → olds.length = xs'.length * e.size →
      (Builtin.firstCells i.size xs'.length (.slice base xs'.length cap)).run P w.drew = .ok olds.toArray w.drew →
      (∀ i (h : i < xs'.length), RepV P e X.O X.F w (List.get xs' ⟨i, h⟩) (fun j => olds[i * e.size + j]?)) →
      ∃ v' w' X', (Builtin.append_ ts ty #[.slice base xs'.length cap, .slice ax ys.length c]).run P w = .ok v' w' ∧ Rel P Z X' { st.kill (PC.atTok tok) with b := Go.PgAM.put st.b tok ⟨x, e, xs' ++ ys⟩ } a w' ∧ SlAt X'.β tok (xs' ++ ys).length v' := by
    intro base cap olds hcap hol hold hels
    have hrun := run_app_grow (P := P) (w := w) (ty := ty) hu hu2 hi hz h0 h1 hcap hold (by have := hfc w.drew rfl; rw [hsz]; exact this) (by omega) (growslice_fits hcap (by omega))
    have hge := grownCap_ge w (xs'.length + ys.length) cap T'
    refine ⟨_, _, { X with β := upd X.β tok (some (w.heap.size, grownCap w (xs'.length + ys.length) cap T')) }, hrun, ?_, by simp only [SlAt, upd_same, hlen']⟩
    refine h.drew.newBlock' (d := tok) (x := x) (e := e) (xs := xs' ++ ys) (by rw [hlen']; exact hge) ?_ ?_
    · simp only [Array.size_append, List.size_toArray, size_zeroCells, hzs, hol, hul, ← Nat.add_mul]
      congr 1
      omega
    · have hd : ∀ {t : VT} {y : t.I} {g}, RepV P t X.O X.F w y g → RepV P t X.O X.F w.drew y g := fun {t y g} hr =>
        RepV.mono (w := w) (w' := w.drew) (fun _ h => h) (fun _ => Nat.le_refl _) ⟨Nat.le_refl _, fun _ _ => rfl, fun _ _ _ => rfl⟩ t y g g (fun _ _ => rfl) hr
      refine app_el (g := fun k => (olds.toArray ++ us.toArray ++ Builtin.zeroCells z.cells (grownCap w (xs'.length + ys.length) cap T' - (xs'.length + ys.length)))[k]?) (fun i hi => ?_) (fun i hi => ?_)
      · refine hd (RepV.mono (fun _ h => h) (fun _ => Nat.le_refl _) (Keeps.refl _ _ _) e _ _ _ (fun j hj => ?_) (hels i hi))
        have h1 : (i + 1) * e.size ≤ xs'.length * e.size := Nat.mul_le_mul_right _ hi
        rw [Nat.succ_mul] at h1
        rw [Array.append_assoc, Array.getElem?_append_left (by simp; omega)]
        simp
      · refine hd (RepV.mono (fun _ h => h) (fun _ => Nat.le_refl _) (Keeps.refl _ _ _) e _ _ _ (fun j hj => ?_) (hel i hi))
        have h1 : (i + 1) * e.size ≤ ys.length * e.size := Nat.mul_le_mul_right _ hi
        rw [Nat.succ_mul] at h1
        have h2 : (xs'.length + i) * e.size = xs'.length * e.size + i * e.size := Nat.add_mul _ _ _
        rw [Array.append_assoc, Array.getElem?_append_right (by simp; omega), Array.getElem?_append_left (by simp; omega)]
        simp only [List.size_toArray, hol, h2, List.getElem?_toArray]
        rw [show xs'.length * e.size + i * e.size + j - xs'.length * e.size = i * e.size + j by omega]
  have hlex : xs'.length ≤ xs.length := by
    rcases hpre with rfl | ⟨_, k, rfl⟩
    · exact Nat.le_refl _
    · simp; omega
  have hbok := h.b tok _ hB
  unfold SlAt at hv
  cases hβ : X.β tok with
  | none =>
    rw [hβ] at hv
    obtain ⟨hx0, a', rfl⟩ := hv
    by_cases hm : ys.length = 0
    · have hus : us = [] := List.eq_nil_of_length_eq_zero (by rw [hul, hm]; simp)
      have hrun := run_app_fit (P := P) (w := w) (w' := w) (ty := ty) (base := a') (n := 0) (cap := 0) (ax := ax) (m := ys.length) (c := c) hu hu2 hi h0 h1 (by omega) (news := us.toArray) (by rw [hsz]; exact hfc w rfl)
        (fun b _ => by subst hus; simp [Go.storeCells]) (fun _ => rfl)
      refine ⟨_, w, { X with β := upd X.β tok none }, hrun, ?_, ?_⟩
      · exact h.newBuf tok ⟨x, e, xs' ++ ys⟩ none (by simp only [BufOk, upd_same]; rw [hlen', hx0, hm]) (by simp) (by simp)
      · simp only [SlAt, upd_same]
        exact ⟨by rw [hlen', hx0, hm], a', by rw [hm]⟩
    · have := grown a' 0 [] (by omega) (by simp [hx0]) (by
        rw [hx0]
        cases a' <;> simp [Builtin.firstCells, Go.loadCells, loadCellsFrom]) (fun i hi => by omega)
      rwa [hx0] at this
  | some q =>
    obtain ⟨b, cap⟩ := q
    rw [hβ] at hv
    simp only [BufOk, hβ] at hbok
    obtain ⟨hO, hF, hle, cs, el, hh, hcs, hels⟩ := hbok
    have hv : v = .slice (some ⟨b, 0, none⟩) xs'.length cap := hv
    subst hv
    have hels' : ∀ i (h : i < xs'.length), RepV P e X.O X.F w (List.get xs' ⟨i, h⟩) (fun j => cs[i * e.size + j]?) := by
      intro i hi
      have := hels i (Nat.lt_of_lt_of_le hi hlex)
      have hg : List.get xs' ⟨i, hi⟩ = List.get xs ⟨i, Nat.lt_of_lt_of_le hi hlex⟩ := by
        rcases hpre with rfl | ⟨_, k, rfl⟩
        · rfl
        · simp
      rw [hg]; exact this
    have hns : xs'.length * e.size ≤ cs.size := by rw [hcs]; exact Nat.mul_le_mul_right _ (by omega)
    by_cases hfit : xs'.length + ys.length ≤ cap
    · have hfit2 : xs'.length * e.size + us.length ≤ cs.size := by rw [hul, hcs, ← Nat.add_mul]; exact Nat.mul_le_mul_right _ hfit
      have hst := run_storeCells_at P b (xs'.length * e.size) el us 0 cs w hh (by simpa using hfit2) hone
      simp only [Nat.add_zero] at hst
      have hrun := run_app_fit (P := P) (w := w) (w' := w.setRow b (cs.toList.take (xs'.length * e.size) ++ us ++ cs.toList.drop (xs'.length * e.size + us.length)).toArray) (ty := ty) (base := some ⟨b, 0, none⟩) (n := xs'.length) (cap := cap) (ax := ax) (m := ys.length) (c := c) hu hu2 hi h0 h1 hfit (news := us.toArray) (by rw [hsz]; exact hfc w rfl)
        (fun b' eq => by cases eq; rw [hsz]; simpa [Addr.add_lit] using hst) (fun h => by cases h)
      refine ⟨_, _, X, hrun, ?_, by simp only [SlAt, hβ, hlen']⟩
      have hcs' : ∀ j, (cs.toList.take (xs'.length * e.size) ++ us ++ cs.toList.drop (xs'.length * e.size + us.length)).toArray[j]? =
          if j < xs'.length * e.size then cs[j]? else if j < xs'.length * e.size + us.length then us[j - xs'.length * e.size]? else cs[j]? := by
        intro j
        simp only [List.getElem?_toArray]
        by_cases c4 : j < xs'.length * e.size
        · rw [if_pos c4, List.append_assoc, List.getElem?_append_left (by simp; omega), List.getElem?_take, if_pos c4]
          simp
        · by_cases c5 : j < xs'.length * e.size + us.length
          · rw [if_neg c4, if_pos c5, List.append_assoc, List.getElem?_append_right (by simp; omega), List.getElem?_append_left (by simp; omega)]
            simp only [List.length_take, Array.length_toList, Nat.min_eq_left hns]
          · rw [if_neg c4, if_neg c5, List.getElem?_append_right (by simp; omega), List.getElem?_drop]
            simp only [List.length_append, List.length_take, Array.length_toList, Nat.min_eq_left hns]
            rw [show xs'.length * e.size + us.length + (j - (xs'.length * e.size + us.length)) = j by omega]
            simp
      have hcsz : (cs.toList.take (xs'.length * e.size) ++ us ++ cs.toList.drop (xs'.length * e.size + us.length)).toArray.size = cs.size := by
        simp; omega
      generalize (cs.toList.take (xs'.length * e.size) ++ us ++ cs.toList.drop (xs'.length * e.size + us.length)).toArray = cs2 at hcs' hcsz ⊢
      have hfz : ∀ o, o < X.F b → cs2[o]? = cs[o]? := by
        intro o ho
        cases x with
        | true => simp at hF; omega
        | false =>
          rcases hpre with rfl | ⟨hx, _⟩
          · simp at hF
            rw [hcs', if_pos (by omega)]
          · cases hx
      have hK := setRow_keeps (F := X.F) hh hO hfz
      refine h.setBuf (B' := ⟨x, e, xs' ++ ys⟩) hB hβ (PC.atTok tok) hh hfz (fun p hp => ptrTo_at hp) (fun p h1 h2 => by rw [h1] at h2; cases h2) ?_
      simp only [BufOk, hβ]
      refine ⟨hO, ?_, by rw [hlen']; exact hfit, cs2, el, setRow_heap w b cs cs2 el (0, 0) hh, by rw [hcsz]; exact hcs, ?_⟩
      · cases x with
        | true => exact hF
        | false =>
          rcases hpre with rfl | ⟨hx, _⟩
          · simp at hF ⊢
            exact Nat.le_trans hF (Nat.mul_le_mul_right _ (by omega))
          · cases hx
      · refine app_el (g := fun k => cs2[k]?) (fun i hi => ?_) (fun i hi => ?_)
        · refine RepV.mono (fun _ h => h) (fun _ => Nat.le_refl _) hK e _ _ _ (fun j hj => ?_) (hels' i hi)
          have h1 : (i + 1) * e.size ≤ xs'.length * e.size := Nat.mul_le_mul_right _ hi
          rw [Nat.succ_mul] at h1
          show cs[i * e.size + j]? = cs2[i * e.size + j]?
          rw [hcs', if_pos (by omega)]
        · refine RepV.mono (fun _ h => h) (fun _ => Nat.le_refl _) hK e _ _ _ (fun j hj => ?_) (hel i hi)
          have h1 : (i + 1) * e.size ≤ ys.length * e.size := Nat.mul_le_mul_right _ hi
          rw [Nat.succ_mul] at h1
          have h2 : (xs'.length + i) * e.size = xs'.length * e.size + i * e.size := Nat.add_mul _ _ _
          show us[i * e.size + j]? = cs2[(xs'.length + i) * e.size + j]?
          rw [hcs', h2, if_neg (by omega), if_pos (by omega)]
          rw [show xs'.length * e.size + i * e.size + j - xs'.length * e.size = i * e.size + j by omega]
    · refine grown (some ⟨b, 0, none⟩) cap (cs.toList.take (xs'.length * e.size)) (by omega) (by simp; omega) ?_ (fun i hi => ?_)
      · refine run_firstCells_some (P := P) w.drew i.size xs'.length ⟨b, 0, none⟩ xs'.length cap _ (by rw [hsz]; simp; omega) fun j v hj => ?_
        rw [List.getElem?_take] at hj
        split at hj
        · rw [add_at]
          simp only [World.cell?, World.drew, hh]
          simpa using hj
        · cases hj
      · refine RepV.mono (fun _ h => h) (fun _ => Nat.le_refl _) (Keeps.refl _ _ _) e _ _ _ (fun j hj => ?_) (hels' i hi)
        have h1 : (i + 1) * e.size ≤ xs'.length * e.size := Nat.mul_le_mul_right _ hi
        rw [Nat.succ_mul] at h1
        show cs[i * e.size + j]? = (cs.toList.take (xs'.length * e.size))[i * e.size + j]?
        rw [List.getElem?_take, if_pos (by omega)]
        simp
end Go.PgAM
