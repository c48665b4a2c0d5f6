/-
  Operations, one by one: a call of what Go has built in; all of them.
-/
import Derived.Test.YtbljidhiecbcfaaAmOpE
namespace Go.PgAM
open Go Go.RowKit
set_option linter.unusedVariables false
set_option linter.unusedSimpArgs false
variable {P : Program} {E : Env} {Z : At0} {X : Cx} {st st' : St} {a : Act} {w w' : World} {o : Oper} {next : Act → World → Prop} {Q : Exit → Act → World → Prop}

/-- A state is what is looked up in it. -/
theorem Rel.congr (h : Rel P Z X st a w) (ht : ∀ n pv, look st'.t n = some pv → look st.t n = some pv) (hr : ∀ r c, st'.row r = some c → st.row r = some c) (hb : ∀ t, look st'.b t = look st.b t) : Rel P Z X st' a w := by
  have m : Moves X X st.b st'.b w w (fun _ => false) :=
    ⟨rfl, fun _ => Nat.le_refl _, Keeps.refl _ _ _, fun _ _ _ _ => rfl, fun _ t _ _ => ⟨rfl, fun B hB => ⟨B, by rw [hb]; exact hB, rfl, rfl⟩⟩, fun _ _ _ _ _ _ _ _ _ => rfl⟩
  exact { O := h.O, evo := h.evo, nt := h.nt, defers := h.defers, t := fun n pv hn => RelP.step m (h.t n pv (ht n pv hn)), r := fun r c hc => RowOk.step m rfl rfl rfl (h.r r c (hr r c hc)),
          b := fun t B hB => h.b t B (by rw [← hb]; exact hB), rr := fun r r' c c' h1 h2 => h.rr r r' c c' (hr _ _ h1) (hr _ _ h2),
          rb := fun r c t B b cap h1 h2 => h.rb r c t B b cap (hr _ _ h1) (by rw [← hb]; exact h2), bb := fun t t' B B' b cap b' cap' h1 h2 => h.bb t t' B B' b cap b' cap' (by rw [← hb]; exact h1) (by rw [← hb]; exact h2) }
theorem Rel.putSame (h : Rel P Z X st a w) {tok : Nat} {B : Buf} (hB : look st.b tok = some B) : Rel P Z X { st with b := Go.PgAM.put st.b tok B } a w := by
  refine h.congr (fun _ _ h => h) (fun _ _ h => h) fun t => ?_
  show look (Go.PgAM.put st.b tok B) t = _
  rw [Go.PgAM.put, look_cons]
  by_cases e : tok = t
  · subst e; rw [if_pos rfl, hB]
  · rw [if_neg e]

theorem foldMax_ok {bs : List (Nat × Buf)} {k : IntKind} : ∀ {l : List PV} {us : List Value} {x y : Int}, All2 (RelP P X bs w) l us → foldI maxI k x l = some y → (us.foldlM Builtin.max2 (.int k x)).run P w = .ok (.int k y) w
  | [], [], x, y, _, h => by
    have := Option.some.inj h
    subst this; simp
  | [], _ :: _, _, _, h, _ => h.elim
  | _ :: _, [], _, _, h, _ => h.elim
  | .s (.d ⟨.int k', z⟩) :: l, u :: us, x, y, ha, h => by
    simp only [foldI] at h
    obtain ⟨hk, h⟩ := cond_some h
    have hk := of_decide_eq_true hk
    subst hk
    have hu := ha.1
    simp only [RelP, RelC, RepS] at hu
    subst hu
    have ih := foldMax_ok ha.2 h
    simp only [List.foldlM_cons, Sem.run_bind]
    simp only [Builtin.max2, Sem.run_pure, Result.andThen_ok]
    exact ih
  | .s (.d ⟨.bool, z⟩) :: l, u :: us, x, y, ha, h => by simp [foldI] at h
  | .s (.d ⟨.str, z⟩) :: l, u :: us, x, y, ha, h => by simp [foldI] at h
  | .s (.d ⟨.sl _, z⟩) :: l, u :: us, x, y, ha, h => by simp [foldI] at h
  | .s (.d ⟨.fn _ _, z⟩) :: l, u :: us, x, y, ha, h => by simp [foldI] at h
  | .s (.loc _ _) :: l, u :: us, x, y, ha, h => by simp [foldI] at h
  | .s (.sref _) :: l, u :: us, x, y, ha, h => by simp [foldI] at h
  | .s (.own _) :: l, u :: us, x, y, ha, h => by simp [foldI] at h
  | .s (.eptr _ _ _ _) :: l, u :: us, x, y, ha, h => by simp [foldI] at h
  | .s (.fn _ _) :: l, u :: us, x, y, ha, h => by simp [foldI] at h
  | .s (.opre _ _) :: l, u :: us, x, y, ha, h => by simp [foldI] at h
  | .s (.osuf _ _) :: l, u :: us, x, y, ha, h => by simp [foldI] at h
  | .s .undef :: l, u :: us, x, y, ha, h => by simp [foldI] at h
  | .s .dead :: l, u :: us, x, y, ha, h => by simp [foldI] at h
  | .agg _ :: l, u :: us, x, y, ha, h => by simp [foldI] at h
  | .tup _ :: l, u :: us, x, y, ha, h => by simp [foldI] at h
theorem foldMin_ok {bs : List (Nat × Buf)} {k : IntKind} : ∀ {l : List PV} {us : List Value} {x y : Int}, All2 (RelP P X bs w) l us → foldI minI k x l = some y → (us.foldlM Builtin.min2 (.int k x)).run P w = .ok (.int k y) w
  | [], [], x, y, _, h => by
    have := Option.some.inj h
    subst this; simp
  | [], _ :: _, _, _, h, _ => h.elim
  | _ :: _, [], _, _, h, _ => h.elim
  | .s (.d ⟨.int k', z⟩) :: l, u :: us, x, y, ha, h => by
    simp only [foldI] at h
    obtain ⟨hk, h⟩ := cond_some h
    have hk := of_decide_eq_true hk
    subst hk
    have hu := ha.1
    simp only [RelP, RelC, RepS] at hu
    subst hu
    have ih := foldMin_ok ha.2 h
    simp only [List.foldlM_cons, Sem.run_bind]
    simp only [Builtin.min2, Sem.run_pure, Result.andThen_ok]
    exact ih
  | .s (.d ⟨.bool, z⟩) :: l, u :: us, x, y, ha, h => by simp [foldI] at h
  | .s (.d ⟨.str, z⟩) :: l, u :: us, x, y, ha, h => by simp [foldI] at h
  | .s (.d ⟨.sl _, z⟩) :: l, u :: us, x, y, ha, h => by simp [foldI] at h
  | .s (.d ⟨.fn _ _, z⟩) :: l, u :: us, x, y, ha, h => by simp [foldI] at h
  | .s (.loc _ _) :: l, u :: us, x, y, ha, h => by simp [foldI] at h
  | .s (.sref _) :: l, u :: us, x, y, ha, h => by simp [foldI] at h
  | .s (.own _) :: l, u :: us, x, y, ha, h => by simp [foldI] at h
  | .s (.eptr _ _ _ _) :: l, u :: us, x, y, ha, h => by simp [foldI] at h
  | .s (.fn _ _) :: l, u :: us, x, y, ha, h => by simp [foldI] at h
  | .s (.opre _ _) :: l, u :: us, x, y, ha, h => by simp [foldI] at h
  | .s (.osuf _ _) :: l, u :: us, x, y, ha, h => by simp [foldI] at h
  | .s .undef :: l, u :: us, x, y, ha, h => by simp [foldI] at h
  | .s .dead :: l, u :: us, x, y, ha, h => by simp [foldI] at h
  | .agg _ :: l, u :: us, x, y, ha, h => by simp [foldI] at h
  | .tup _ :: l, u :: us, x, y, ha, h => by simp [foldI] at h

theorem slTy_ok (hE : EnvOk P E Z) {ts : Array TypeId} {n : Nat} (h : slTy E ts.toList n = true) : ∃ T T', ts[0]? = some T ∧ P.underlying T = some (.slice T') := by
  unfold slTy at h
  split at h
  · rename_i t r e0
    split at h
    · rename_i ti e1
      split at h
      · rename_i e e2
        obtain ⟨T', i, h1, _⟩ := tyB_sl (hE.tyOf e1) e2
        exact ⟨t, T', by rw [← Array.getElem?_toList, e0]; rfl, h1⟩
      · cases h
    · cases h
  · cases h
theorem strTy_ok (hE : EnvOk P E Z) {ts : Array TypeId} (h : strTy E ts.toList = true) : ∃ T, ts[0]? = some T ∧ P.underlying T = some .string := by
  unfold strTy at h
  split at h
  · rename_i t r e0
    split at h
    · rename_i ti e1
      split at h
      · rename_i e2
        exact ⟨t, by rw [← Array.getElem?_toList, e0]; rfl, tyB_str (hE.tyOf e1) e2⟩
      · cases h
    · cases h
  · cases h
theorem slTyE_ok (hE : EnvOk P E Z) {ts : Array TypeId} {e : VT} (h : slTyE E ts.toList e = true) : ∃ T T' i, ts[0]? = some T ∧ P.underlying T = some (.slice T') ∧ zeroB P T' e = true ∧ P.info? T' = some i ∧ i.size = e.size := by
  unfold slTyE at h
  split at h
  · rename_i t r e0
    split at h
    · rename_i ti e1
      split at h
      · rename_i e' e2
        split at h
        · rename_i e3 _
          subst e3
          obtain ⟨T', i, h1, h2, h3, h4, _⟩ := tyB_sl (hE.tyOf e1) e2
          obtain ⟨i2, d2, q1, _, q2, _⟩ := sizeB_ok h2
          rw [h4] at q1; cases q1
          exact ⟨t, T', i, by rw [← Array.getElem?_toList, e0]; rfl, h1, h3, h4, q2⟩
        · cases h
      · cases h
    · cases h
  · cases h
theorem all2_one {α β : Type} {R : α → β → Prop} {x : α} {us : List β} (h : All2 R [x] us) : ∃ u, us = [u] ∧ R x u := by
  match us, h with
  | [u], h => exact ⟨u, rfl, h.1⟩
theorem all2_two {α β : Type} {R : α → β → Prop} {x y : α} {us : List β} (h : All2 R [x, y] us) : ∃ u v, us = [u, v] ∧ R x u ∧ R y v := by
  match us, h with
  | [u, v], h => exact ⟨u, v, rfl, h.1, h.2.1⟩

/-- A buffer's end is cleared. -/
theorem Rel.clear (h : Rel P Z X st a w) {tok lo : Nat} {e : VT} {xs : List e.I} (hB : look st.b tok = some ⟨true, e, xs⟩) (hpos : 1 ≤ e.size) (hnf : e.noFn = true) {v : Value} (hv : RelC P X st.b w (.osuf tok lo) v)
    {T T' ty : TypeId} {z : Value} (hu : P.underlying T = some (.slice T')) (hz : ∀ w : World, (zeroValue T').run P w = .ok (zeroV e) w) {ts : Array TypeId} (h0 : ts[0]? = some T) :
    ∃ r w', (Builtin.clear_ ts ty #[v]).run P w = .ok r w' ∧ Rel P Z X { st.kill (PC.ptrTo tok) with b := Go.PgAM.put st.b tok ⟨true, e, xs.take lo ++ List.replicate (xs.length - lo) e.zero⟩ } a w' := by
  obtain ⟨B, hB', hlo, hv⟩ := hv
  rw [hB] at hB'; cases hB'
  simp only at hlo hv
  have same : xs.length - lo = 0 → Rel P Z X { st.kill (PC.ptrTo tok) with b := Go.PgAM.put st.b tok ⟨true, e, xs.take lo ++ List.replicate (xs.length - lo) e.zero⟩ } a w := by
    intro hl
    have e1 : xs.take lo ++ List.replicate (xs.length - lo) e.zero = xs := by
      rw [hl, List.replicate_zero, List.append_nil, List.take_of_length_le (by omega)]
    rw [e1]
    exact (h.kill (PC.ptrTo tok)).putSame hB
  have hbok := h.b tok _ hB
  cases hβ : X.β tok with
  | none =>
    rw [hβ] at hv
    obtain ⟨a', rfl⟩ := hv
    simp only [BufOk, hβ] at hbok
    refine ⟨.tuple #[], w, ?_, same (by omega)⟩
    cases a' <;> simp [Builtin.clear_, h0, run_underlying hu]
  | some q =>
    obtain ⟨b, cap⟩ := q
    rw [hβ] at hv
    obtain ⟨a', rfl, ha⟩ := hv
    simp only [BufOk, hβ] at hbok
    obtain ⟨hO, hF, hle, cs, el, hh, hcs, hels⟩ := hbok
    cases hl : xs.length - lo with
    | zero =>
      have := same hl
      rw [hl] at this
      exact ⟨.tuple #[], w, by simp [Builtin.clear_, h0, run_underlying hu], this⟩
    | succ k =>
      have ha := ha (by omega)
      subst ha
      have hF0 : X.F b = 0 := by simpa using hF
      have hfit : lo * e.size + (k + 1) * e.size ≤ cs.size := by
        rw [hcs, ← Nat.add_mul]; exact Nat.mul_le_mul_right _ (by omega)
      have hzc : (Builtin.zeroCells (zeroV e).cells (k + 1)).toList.length = (k + 1) * e.size := by simp [Builtin.zeroCells, zeroV_size]
      have hzg : ∀ j, j < (k + 1) * e.size → (Builtin.zeroCells (zeroV e).cells (k + 1)).toList[j]? = (zeroV e).cells[j % e.size]? := by
        intro j hj
        have hm : j % e.size < (zeroV e).cells.size := by rw [zeroV_size]; exact Nat.mod_lt _ (by omega)
        simp only [Builtin.zeroCells, Array.getElem?_toList, Array.getElem?_map, zeroV_size, Array.getElem?_range, hj, if_true, Option.map_some]
        rw [getElem?_pos (zeroV e).cells (j % e.size) hm, getElem!_pos (zeroV e).cells (j % e.size) hm]
      have hone : ∀ u ∈ (Builtin.zeroCells (zeroV e).cells (k + 1)).toList, u.oneCell' = true := by
        intro u hu
        obtain ⟨j, hj⟩ := List.mem_iff_getElem?.1 hu
        have hlt : j < (k + 1) * e.size := by
          rw [← hzc]; exact (List.getElem?_eq_some_iff.1 hj).1
        rw [hzg j hlt] at hj
        have hm : j % e.size < e.size := Nat.mod_lt _ (by omega)
        have hr := RepV.zero (P := P) (O := X.O) (F := X.F) (w := w) e hnf
        have hcl : j % e.size < (e.cells e.zero).length := by rw [vcells_length]; exact hm
        obtain ⟨u', hu', hs⟩ := RepV.cells hr _ _ (List.getElem?_eq_getElem hcl)
        rw [hj] at hu'; cases hu'
        exact hs.one
      have hst := run_storeCells_at P b (lo * e.size) el _ 0 cs w hh (by rw [hzc]; simpa using hfit) hone
      simp only [Nat.add_zero] at hst
      rw [hzc] at hst
      refine ⟨.tuple #[], w.setRow b (cs.toList.take (lo * e.size) ++ (Builtin.zeroCells (zeroV e).cells (k + 1)).toList ++ cs.toList.drop (lo * e.size + (k + 1) * e.size)).toArray, by simp only [Builtin.clear_, h0]; simp only [List.getElem?_toArray]; simp [run_underlying hu, hz]; rw [hst]; simp, ?_⟩
      have hcs' : ∀ j, (cs.toList.take (lo * e.size) ++ (Builtin.zeroCells (zeroV e).cells (k + 1)).toList ++ cs.toList.drop (lo * e.size + (k + 1) * e.size)).toArray[j]? =
          if j < lo * e.size then cs[j]? else if j < lo * e.size + (k + 1) * e.size then (zeroV e).cells[(j - lo * e.size) % e.size]? else cs[j]? := by
        intro j
        simp only [List.getElem?_toArray]
        by_cases c4 : j < lo * e.size
        · rw [if_pos c4, List.append_assoc, List.getElem?_append_left (by simp; omega), List.getElem?_take, if_pos c4]
          simp
        · by_cases c5 : j < lo * e.size + (k + 1) * e.size
          · rw [if_neg c4, if_pos c5, List.append_assoc, List.getElem?_append_right (by simp; omega), List.getElem?_append_left (by rw [hzc]; simp; omega)]
            simp only [List.length_take, Array.length_toList, Nat.min_eq_left (show lo * e.size ≤ cs.size by omega)]
            rw [hzg _ (by omega)]
          · rw [if_neg c4, if_neg c5, List.getElem?_append_right (by simp only [List.length_append, hzc]; simp; omega), List.getElem?_drop]
            simp only [List.length_append, List.length_take, Array.length_toList, Nat.min_eq_left (show lo * e.size ≤ cs.size by omega), hzc]
            rw [show lo * e.size + (k + 1) * e.size + (j - (lo * e.size + (k + 1) * e.size)) = j by omega]
            simp
      have hcsz : (cs.toList.take (lo * e.size) ++ (Builtin.zeroCells (zeroV e).cells (k + 1)).toList ++ cs.toList.drop (lo * e.size + (k + 1) * e.size)).toArray.size = cs.size := by
        simp only [List.size_toArray, List.length_append, hzc, List.length_take, List.length_drop, Array.length_toList]
        omega
      generalize (cs.toList.take (lo * e.size) ++ (Builtin.zeroCells (zeroV e).cells (k + 1)).toList ++ cs.toList.drop (lo * e.size + (k + 1) * e.size)).toArray = cs2 at hcs' hcsz ⊢
      have hfz : ∀ o, o < X.F b → cs2[o]? = cs[o]? := fun o ho => by omega
      have hK := setRow_keeps (F := X.F) hh hO hfz
      have hlen : (xs.take lo ++ List.replicate (k + 1) e.zero).length = xs.length := by simp; omega
      refine h.setBuf (B' := ⟨true, e, xs.take lo ++ List.replicate (k + 1) e.zero⟩) hB hβ (PC.ptrTo tok) hh hfz (fun p hp => hp) (fun p h1 h2 => ⟨hlen, rfl⟩) ?_
      simp only [BufOk, hβ]
      refine ⟨hO, by simp [hF0], by rw [hlen]; exact hle, cs2, el, setRow_heap w b cs cs2 el (0, 0) hh, by rw [hcsz]; exact hcs, ?_⟩
      have htl : (xs.take lo).length = lo := by simp; omega
      refine app_el (g := fun k => cs2[k]?) (fun i hi => ?_) (fun i hi => ?_)
      · have hi' : i < lo := by rw [htl] at hi; exact hi
        have hg : List.get (xs.take lo) ⟨i, hi⟩ = List.get xs ⟨i, by omega⟩ := by simp
        rw [hg]
        refine RepV.mono (fun _ h => h) (fun _ => Nat.le_refl _) hK e _ _ _ (fun j hj => ?_) (hels i (by omega))
        have h1 : (i + 1) * e.size ≤ lo * e.size := Nat.mul_le_mul_right _ hi'
        rw [Nat.succ_mul] at h1
        show cs[i * e.size + j]? = cs2[i * e.size + j]?
        rw [hcs', if_pos (by omega)]
      · have hi' : i < k + 1 := by simpa using hi
        have hg : List.get (List.replicate (k + 1) e.zero) ⟨i, hi⟩ = e.zero := by simp
        rw [hg]
        refine RepV.mono (fun _ h => h) (fun _ => Nat.le_refl _) (Keeps.refl _ _ _) e _ _ _ (fun j hj => ?_) (RepV.zero e hnf)
        have h1 : (i + 1) * e.size ≤ (k + 1) * e.size := Nat.mul_le_mul_right _ hi'
        rw [Nat.succ_mul] at h1
        show (zeroV e).cells[j]? = cs2[((xs.take lo).length + i) * e.size + j]?
        rw [htl, Nat.add_mul, hcs', if_neg (by omega), if_pos (by omega)]
        rw [show lo * e.size + i * e.size + j - lo * e.size = i * e.size + j by omega, Nat.mul_comm i, Nat.mul_add_mod, Nat.mod_eq_of_lt hj]

theorem array_of_toList {α : Type} {xs : Array α} {l : List α} (h : xs.toList = l) : xs = l.toArray := by
  subst h; simp
theorem wp_callBuiltin (hE : EnvOk P E Z) (h : Rel P Z X st a w) (hd : dstOk E o = true) {c : Call} {b : Builtin} (ho : o.op = .call c) (hc : c.callee = .builtin b) (hs : step1 E o st some = some st') (hn : Goes P E Z X st st' a w o next) : o.wp P a w next Q := by
  unfold step1 at hs
  rw [ho] at hs
  simp only [hc] at hs
  split at hs
  · cases hs
  · rename_i args e1
    have hargs := argPVs_ok h e1
    have hml : (c.args.map a.eval).toList = c.args.toList.map a.eval := by simp
    have run1 : ∀ {f : Array TypeId → TypeId → Array Value → Sem Value} {us : List Value} {v : Value} {w' : World}, (∀ ts ty cs vs, builtin b ts ty cs vs = (do pure (.value (← f ts ty vs)))) → c.args.toList.map a.eval = us →
        (f c.argTypes o.type us.toArray).run P w = .ok v w' → (execOp a.eval o).run P w = .ok (.value v) w' := by
      intro f us v w' hf hus hr
      have e2 : c.args.map a.eval = us.toArray := array_of_toList (by rw [hml]; exact hus)
      unfold execOp
      rw [ho]
      simp only [resolve, hc, Sem.run_bind, Sem.run_pure, Result.andThen_ok, invoke, hf, e2, hr]
    unfold builtinStep at hs
    split at hs
    · -- len of a list
      rename_i dd e xs
      obtain ⟨u, hu, hr⟩ := all2_one hargs
      split at hs
      · rename_i hty
        obtain ⟨T, T', h0, h1⟩ := slTy_ok hE hty
        simp only [RelP, RelC, RepS] at hr
        obtain ⟨ad, cap, rfl, _⟩ := hr
        refine wp_value (run1 (f := Builtin.len_) (fun _ _ _ _ => rfl) hu (v := .int .i64 ((List.length (α := e.I) xs : Nat) : Int)) (w' := w) (by simp [Builtin.len_, h0, run_underlying h1, goInt])) ?_
        exact hn.pure h (dst_lt hE hd) (by simp only [RelP, RelC, RepS]) (Option.some.inj hs)
      · cases hs
    · rename_i dd s
      obtain ⟨u, hu, hr⟩ := all2_one hargs
      split at hs
      · rename_i hty
        obtain ⟨T, h0, h1⟩ := strTy_ok hE hty
        simp only [RelP, RelC, RepS] at hr
        subst hr
        refine wp_value (run1 (f := Builtin.len_) (fun _ _ _ _ => rfl) hu (v := .int .i64 ((ByteArray.size s : Nat) : Int)) (w' := w) (by simp [Builtin.len_, h0, run_underlying h1, goInt])) ?_
        exact hn.pure h (dst_lt hE hd) (by simp only [RelP, RelC, RepS]) (Option.some.inj hs)
      · cases hs
    · rename_i dd tok
      obtain ⟨u, hu, hr⟩ := all2_one hargs
      split at hs
      · rename_i B hB
        split at hs
        · rename_i hty
          obtain ⟨T, T', h0, h1⟩ := slTy_ok hE hty
          obtain ⟨B', hB', hr⟩ := hr
          rw [hB] at hB'; cases hB'
          have hu' : ∃ ad cap, u = .slice ad B.xs.length cap := by
            unfold SlAt at hr
            split at hr
            · exact ⟨_, _, hr⟩
            · obtain ⟨h0, a', hu⟩ := hr; exact ⟨a', 0, by rw [hu, h0]⟩
          obtain ⟨ad, cap, rfl⟩ := hu'
          refine wp_value (run1 (f := Builtin.len_) (fun _ _ _ _ => rfl) hu (v := .int .i64 ((List.length B.xs : Nat) : Int)) (w' := w) (by simp [Builtin.len_, h0, run_underlying h1, goInt])) ?_
          exact hn.pure h (dst_lt hE hd) (by simp only [RelP, RelC, RepS]) (Option.some.inj hs)
        · cases hs
      · cases hs
    · rename_i dd kd x l
      split at hs
      · rename_i y hy
        cases hul : c.args.toList.map a.eval with
        | nil => rw [hul] at hargs; exact hargs.elim
        | cons u us =>
          rw [hul] at hargs
          have hr := hargs.1
          simp only [RelP, RelC, RepS] at hr
          subst hr
          have hf := foldMax_ok hargs.2 hy
          refine wp_value (run1 (f := Builtin.max_) (fun _ _ _ _ => rfl) hul (v := .int kd y) (w' := w) (by simpa [Builtin.max_] using hf)) ?_
          exact hn.pure h (dst_lt hE hd) (by simp only [RelP, RelC, RepS]) (Option.some.inj hs)
      · cases hs
    · rename_i dd kd x l
      split at hs
      · rename_i y hy
        cases hul : c.args.toList.map a.eval with
        | nil => rw [hul] at hargs; exact hargs.elim
        | cons u us =>
          rw [hul] at hargs
          have hr := hargs.1
          simp only [RelP, RelC, RepS] at hr
          subst hr
          have hf := foldMin_ok hargs.2 hy
          refine wp_value (run1 (f := Builtin.min_) (fun _ _ _ _ => rfl) hul (v := .int kd y) (w' := w) (by simpa [Builtin.min_] using hf)) ?_
          exact hn.pure h (dst_lt hE hd) (by simp only [RelP, RelC, RepS]) (Option.some.inj hs)
      · cases hs
    · -- clear
      rename_i tok lo hds
      obtain ⟨u, hu, hr⟩ := all2_one hargs
      split at hs
      · rename_i e xs hB
        split at hs
        · rename_i hty
          simp only [Bool.and_eq_true] at hty
          obtain ⟨⟨t1, t2⟩, t3⟩ := hty
          obtain ⟨T, T', i, h0, h1, h2, h3, h4⟩ := slTyE_ok hE t1
          obtain ⟨r, w', k1, k2⟩ := h.clear (ty := o.type) hB (Nat.le_of_ble_eq_true t3) t2 hr h1 (fun w => run_zeroValue h2 w) (z := .tuple #[]) h0
          refine wp_value (run1 (f := Builtin.clear_) (fun _ _ _ _ => rfl) hu k1) ?_
          refine hn r X w' ?_ fun hq _ => ?_
          · rw [hds, ← Option.some.inj hs]; exact k2
          · simp [isQ, ho, hc] at hq
        · cases hs
      · cases hs
    · -- append
      rename_i pa pb d hds
      obtain ⟨v, u, hu, hra, hrb⟩ := all2_two hargs
      split at hs
      · rename_i t t' r hts
        split at hs
        · rename_i ti' e2
          split at hs
          · rename_i e' e3
            obtain ⟨T2', _, hu2, _⟩ := tyB_sl (hE.tyOf e2) e3
            have i0 : c.argTypes[0]? = some t := by rw [← Array.getElem?_toList, hts]; rfl
            have i1 : c.argTypes[1]? = some t' := by rw [← Array.getElem?_toList, hts]; rfl
            have key : ∀ tok (hi : Option Nat), appTok pa = some (tok, hi) → o.wp P a w next Q := by
              intro tok hi hpa
              unfold appendStep at hs
              rw [hpa] at hs
              simp only at hs
              split at hs
              · rename_i tok2 hi2 ti e5 e4
                cases e5
                split at hs
                · rename_i x e xs hB
                  split at hs
                  · rename_i ys e'' e6 e7
                    obtain ⟨hc1, hs⟩ := cond_some hs
                    simp only [Bool.and_eq_true] at hc1
                    obtain ⟨⟨c1, c2⟩, c3⟩ := hc1
                    have c1 := Nat.eq_of_beq_eq_true c1
                    have c2 := Nat.le_of_ble_eq_true c2
                    have c3 := Nat.le_of_ble_eq_true c3
                    obtain ⟨hx, hs⟩ := cond_some hs
                    obtain ⟨hroom, hs⟩ := grd_some hs
                    have hroom := of_decide_eq_true hroom
                    have hst := Option.some.inj hs
                    obtain ⟨T', i, q1, q2, q3, q4, q5⟩ := tyB_sl (hE.tyOf e4) e7
                    obtain ⟨i2, hi2, hz⟩ := zeroB_ok q3
                    rw [q4] at hi2; cases hi2
                    obtain ⟨i3, d3, r1, _, r2, _⟩ := sizeB_ok q2
                    rw [q4] at r1; cases r1
                    have hsrc := appSrc_ok h c2 e6 hrb
                    have hpre : (preOf hi xs) = xs ∨ (x = true ∧ ∃ k, (preOf hi xs) = xs.take k) := by
                      cases hi with
                      | none => exact .inl rfl
                      | some k => exact .inr ⟨hx, k, rfl⟩
                    have hsl : SlAt X.β tok (List.length (preOf hi xs)) v := by
                      unfold appTok at hpa
                      split at hpa
                      · cases hpa
                        obtain ⟨B, hB', hsl⟩ := hra
                        rw [hB] at hB'; cases hB'
                        exact hsl
                      · cases hpa
                        obtain ⟨B, hB', hle, hsl⟩ := hra
                        rw [hB] at hB'; cases hB'
                        simp only at hle
                        have hl : ∀ k, k ≤ xs.length → (xs.take k).length = k := fun k hk => by simp only [List.length_take]; exact Nat.min_eq_left hk
                        show SlAt X.β tok (xs.take _).length v
                        rw [hl _ hle]; exact hsl
                      · cases hpa
                    obtain ⟨v', w', X', k1, k2, k3⟩ := h.append (ty := o.type) hB hpre hsl hsrc q1 hu2 q4 hz (by rw [zeroV_size]; exact c1) (by rw [r2]; exact c1) (by rw [q5]; exact c3) i0 i1 (by rw [q5]; exact hroom)
                    refine wp_value (run1 (f := Builtin.append_) (fun _ _ _ _ => rfl) hu k1) ?_
                    refine hn v' X' w' ?_ fun hq _ => ?_
                    · rw [hds, ← hst]
                      exact k2.put (pv := .s (.own tok)) (dst_lt hE hd d hds) ⟨⟨x, e, preOf hi xs ++ ys⟩, by simp [Go.PgAM.put, look_cons], k3⟩
                    · simp [isQ, ho, hc] at hq
                  · cases hs
                · cases hs
              · cases hs
            cases hpa : appTok pa with
            | some q => exact key q.1 q.2 hpa
            | none =>
              unfold appendStep at hs
              rw [hpa] at hs
              cases hs
          · cases hs
        · cases hs
      · cases hs
    · cases hs

theorem wp_call (hE : EnvOk P E Z) (h : Rel P Z X st a w) (hd : dstOk E o = true) {c : Call} (ho : o.op = .call c) (hs : step1 E o st some = some st') (hn : Goes P E Z X st st' a w o next) : o.wp P a w next Q := by
  cases hc : c.callee with
  | value f => exact wp_callValue hE h hd ho hc hs hn
  | builtin b => exact wp_callBuiltin hE h hd ho hc hs hn
  | invoke r m =>
    unfold step1 at hs
    rw [ho] at hs
    simp only [hc] at hs
    split at hs <;> cases hs

/-- An operation does what the machine says. -/
theorem step1_ok (hE : EnvOk P E Z) (h : Rel P Z X st a w) (hd : dstOk E o = true) (hs : step1 E o st some = some st') (hn : Goes P E Z X st st' a w o next) : o.wp P a w next Q := by
  cases ho : o.op with
  | move x => exact wp_move hE h hd ho hs hn
  | assign x => exact wp_assign hE h hd ho hs hn
  | pick c x y => exact wp_pick hE h hd ho hs hn
  | alloc T => exact wp_alloc hE h hd ho hs hn
  | box T x => exact wp_box hE h hd ho hs hn
  | build T ps => exact wp_build hE h hd ho hs hn
  | buildSlice T n ps => exact wp_buildSlice hE h hd ho hs hn
  | load T x => exact wp_load hE h hd ho hs hn
  | store T x y => exact wp_store' hE h hd ho hs hn
  | nilCheck x => exact wp_nilCheck hE h hd ho hs hn
  | binOp op T x y yT => exact wp_binOp hE h hd ho hs hn
  | unOp op T x => exact wp_unOp hE h hd ho hs hn
  | convert s d x => exact wp_convert hE h hd ho hs hn
  | makeFunc f first cs =>
    cases f with
    | func f => exact wp_makeFunc hE h hd ho hs hn
    | _ =>
      unfold step1 at hs
      rw [ho] at hs
      cases hs
  | call c => exact wp_call hE h hd ho hs hn
  | extract x i => exact wp_extract hE h hd ho hs hn
  | slice T x lo hi mx => exact wp_slice hE h hd ho hs hn
  | fieldAddr T x f => exact wp_fieldAddr hE h hd ho hs hn
  | field T x f => exact wp_field hE h hd ho hs hn
  | indexAddr T x y => exact wp_indexAddr hE h hd ho hs hn
  | index T x y => exact wp_index hE h hd ho hs hn
  | makeSlice T x y => exact wp_makeSlice hE h hd ho hs hn
  | _ =>
    unfold step1 at hs
    rw [ho] at hs
    cases hs
end Go.PgAM
