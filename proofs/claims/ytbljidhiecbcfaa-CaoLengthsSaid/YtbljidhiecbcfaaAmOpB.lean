/-
  Operations, one by one: a new row, an element written.
-/
import Derived.Test.YtbljidhiecbcfaaAmOpA
import Derived.Laws.MakeOwn
namespace Go.PgAM
open Go Go.RowKit
set_option linter.unusedVariables false
set_option linter.unusedSimpArgs false
variable {P : Program} {E : Env} {Z : At0} {X : Cx} {st st' : St} {a : Act} {w w' : World} {o : Oper} {next : Act → World → Prop} {Q : Exit → Act → World → Prop}

section zero
variable {O : Nat → Prop} {F : Nat → Nat}
theorem RepS.zero : (s : Sc) → s.noFn = true → RepS P s O F w s.zero (zeroS s)
  | .int k, _ => by simp only [RepS, Sc.zero, zeroS]
  | .bool, _ => by simp only [RepS, Sc.zero, zeroS]
  | .str, _ => by simp only [RepS, Sc.zero, zeroS]
  | .sl e, _ => by simp only [RepS]; exact ⟨none, 0, by simp [zeroS, Sc.zero], Nat.le_refl _, .inl rfl⟩
  | .fn _ _, h => by simp [Sc.noFn] at h
theorem RepCs.zero : (t : Scs) → t.noFn = true → RepCs P t O F w t.zero (fun j => (zeroCs t)[j]?)
  | .nil, _ => by simp only [RepCs]
  | .cons s .nil, h => by
    simp only [RepCs, Scs.zero]
    have hs1 : s.noFn = true := by rw [Scs.noFn] at h; simp at h; exact h.1
    exact ⟨zeroS s, rfl, RepS.zero s hs1⟩
  | .cons s (.cons s' r), h => by
    simp only [RepCs, Scs.zero]
    have hs1 : s.noFn = true ∧ (Scs.cons s' r).noFn = true := by
      rw [Scs.noFn] at h; simpa using h
    exact ⟨⟨zeroS s, rfl, RepS.zero s hs1.1⟩, by simpa [zeroCs] using RepCs.zero (.cons s' r) hs1.2⟩
theorem zeroCs_length : ∀ (t : Scs), (zeroCs t).length = t.size
  | .nil => rfl
  | .cons s r => by simp [zeroCs, Scs.size, zeroCs_length r]
theorem zeroV_size (t : VT) : (zeroV t).cells.size = t.size := by
  have := zeroV_cells t
  rw [← Array.length_toList, this, zeroCs_length, scs_size]
theorem RepV.zero (t : VT) (h : t.noFn = true) : RepV P t O F w t.zero (fun j => (zeroV t).cells[j]?) := by
  cases t with
  | sc s =>
    simp only [RepV]
    refine ⟨zeroS s, ?_, RepS.zero s (by simpa [VT.noFn] using h)⟩
    have : (zeroV (.sc s)).cells.toList = [zeroS s] := zeroV_cells (.sc s)
    rw [← Array.getElem?_toList, this]; rfl
  | ag cs =>
    simp only [RepV]
    have := RepCs.zero (P := P) (O := O) (F := F) (w := w) cs (by simpa [VT.noFn] using h)
    have e : (zeroV (.ag cs)).cells.toList = zeroCs cs := zeroV_cells (.ag cs)
    have e2 : (fun j : Nat => (zeroV (.ag cs)).cells[j]?) = fun j : Nat => (zeroCs cs)[j]? := by
      funext j; rw [← Array.getElem?_toList, e]
    rw [e2]; exact this
end zero

theorem wp_makeSlice (hE : EnvOk P E Z) (h : Rel P Z X st a w) (hd : dstOk E o = true) {T : TypeId} {x y : Operand} (ho : o.op = .makeSlice T x y) (hs : step1 E o st some = some st') (hn : Goes P E Z X st st' a w o next) : o.wp P a w next Q := by
  unfold step1 at hs
  rw [ho] at hs
  simp only at hs
  split at hs
  · rename_i d ti n m e1 e2 e3 e4
    split at hs
    · rename_i e e5
      split at hs
      · rename_i hc
        simp only [Bool.and_eq_true] at hc
        obtain ⟨⟨c1, c2⟩, c3⟩ := hc
        have c1 := Nat.le_of_ble_eq_true c1
        have c2 := Nat.le_of_ble_eq_true c2
        obtain ⟨g1, hs1⟩ := grd_some hs
        obtain ⟨g2, hs2⟩ := grd_some hs1
        obtain ⟨g3, hs3⟩ := grd_some hs2
        have g1 : 0 ≤ n := of_decide_eq_true g1
        have g2 : n = m := by simpa using g2
        have g3 : n.toNat * ti.eb ≤ room := of_decide_eq_true g3
        subst g2
        obtain ⟨N, rfl⟩ := Int.eq_ofNat_of_zero_le g1
        simp only [Int.toNat_natCast] at g3 hs3
        obtain ⟨k1, h1⟩ := oInt_ok h e3
        obtain ⟨k2, h2⟩ := oInt_ok h e4
        obtain ⟨T', i, hu, h3, hz, hi, hb⟩ := tyB_sl (hE.tyOf e2) e5
        obtain ⟨i', hi', hz'⟩ := zeroB_ok hz
        rw [hi] at hi'; cases hi'
        have hsz : i.size = e.size := by
          obtain ⟨i2, d2, q1, _, q2, _⟩ := sizeB_ok h3
          rw [hi] at q1; cases q1; exact q2
        have hN : N ≤ room := Nat.le_trans (by have := Nat.mul_le_mul_left N c1; simpa using this) g3
        have hroom : room = 140737488355328 := rfl
        have hbytes : (i.bytes : Int) * (N : Int) ≤ 281474976710656 := by
          rw [hb, Int.mul_comm, ← Int.natCast_mul]; omega
        have hrun := run_make (P := P) w T T' i (zeroV e) hu hi hz' k1 k2 N N (by omega) (Int.le_refl _) hbytes (by omega)
        simp only [Int.toNat_natCast] at hrun
        rw [hsz] at hrun
        refine wp_value (v := .slice (some ⟨w.heap.size, 0, none⟩) N N) (by unfold execOp; rw [ho]; simp only [h1, h2, Sem.run_bind, hrun, Result.andThen_ok, Sem.run_pure]; rfl) ?_
        have hel : ∀ j (hj : j < (List.replicate N e.zero).length), RepV P e X.O X.F w (List.get (List.replicate N e.zero) ⟨j, hj⟩) (fun l => (madeCells (zeroV e).cells (N * e.size))[j * e.size + l]?) := by
          intro j hj
          have hjN : j < N := by simpa using hj
          have hg : List.get (List.replicate N e.zero) ⟨j, hj⟩ = e.zero := by simp
          rw [hg]
          refine RepV.mono (fun _ h => h) (fun _ => Nat.le_refl _) (Keeps.refl _ _ _) e _ _ _ (fun l hl => ?_) (RepV.zero e c3)
          have h1 : (j + 1) * e.size ≤ N * e.size := Nat.mul_le_mul_right _ hjN
          rw [Nat.succ_mul] at h1
          have h2 : j * e.size + l < N * e.size := by omega
          have h3 : (j * e.size + l) % e.size = l := by
            rw [Nat.mul_comm, Nat.mul_add_mod, Nat.mod_eq_of_lt hl]
          simp only [madeCells, Array.getElem?_map, Array.getElem?_range, h2, if_true, Option.map_some, zeroV_size, h3]
          rw [getElem?_pos _ l (by rw [zeroV_size]; exact hl), getElem!_pos _ l (by rw [zeroV_size]; exact hl)]
        have g5 := h.newBlock (d := d) (T := T') (n := N) (e := e) (xs := List.replicate N e.zero) (by simp) (size_madeCells _ _) hel
        have hst := Option.some.inj hs3
        refine hn _ _ _ (by rw [← hst, e1]; exact g5.put (dst_lt hE hd d e1) ⟨⟨true, e, List.replicate N e.zero⟩, by rw [look_newBuf, if_pos rfl], by simp only [SlAt, upd_same]; simp⟩) fun hq _ => ?_
        simp [isQ, ho] at hq
      · cases hs
    · cases hs
  · cases hs

theorem setRow_keeps' {O : Nat → Prop} {F : Nat → Nat} {b : Nat} {cs cs' : Array Value} {el : TypeId} (hh : w.heap[b]? = some (.cells cs el (0, 0))) (hO : ¬ O b) (hF : F b = 0) : Keeps O F w (w.setRow b cs') := by
  have hoth : ∀ b', b' ≠ b → (w.setRow b cs').heap[b']? = w.heap[b']? := fun b' hb' => setRow_other w _ b' _ hb'
  refine ⟨by simp, fun b' hb' => hoth b' fun e => hO (e ▸ hb'), fun b' o ho => cell_of_heap (hoth b' fun e => ?_)⟩
  rw [e, hF] at ho; omega
theorem wp_storeElem (hE : EnvOk P E Z) (h : Rel P Z X st a w) {T : TypeId} {x y : Operand} (ho : o.op = .store T x y) (hds : o.dst = none) {ti : TI} {tok : Nat} {i : Int} {cs : List DC} {pv : PV}
    (e1 : E.tyOf T = some ti) (e2 : opc st x = some (.eptr tok i 0 cs)) (e3 : opv st y = some pv) (hs : storeElem E tok i ti.vt.size pv st some = some st') (hn : Goes P E Z X st st' a w o next) : o.wp P a w next Q := by
  unfold storeElem at hs
  split at hs
  · rename_i e xs hB
    split at hs
    · rename_i z e4
      obtain ⟨hc, hs⟩ := cond_some hs
      simp only [Bool.and_eq_true, Bool.not_eq_true'] at hc
      obtain ⟨⟨c1, c2⟩, c3⟩ := hc
      have c1 := Nat.eq_of_beq_eq_true c1
      have c3 := memb_false c3
      have hst := Option.some.inj hs
      obtain ⟨F1, f1, f2, f3, f4⟩ := Rel.share (pv.toks st) h
      obtain ⟨B, b, cap, hB', hβ, h0, hcap, hszs, hx, _⟩ := opc_ok h e2
      have eB : B = ⟨true, e, xs⟩ := Option.some.inj (hB'.symm.trans hB)
      subst eB
      simp only [Nat.add_zero] at hx
      -- the value
      have hsh : Shown X st (fun b => b < w.heap.size) F1 (pv.toks st) := ⟨h.oldO, f1, fun r c hr => h.row_lt hr, fun t ht B b cap => f3 t B b cap ht⟩
      have hvp := h.vp hsh (opv_ok h e3) (fun t ht => ht) fun t _ B b cap hB hb => h.buf_lt hB hb
      obtain ⟨g, g1, g2⟩ := toVT_ok hE.C (fun _ h => h) e4 hvp
      have g3 : RepV P e X.O F1 w z g := RepV.noFn e c2 g2
      obtain ⟨hvs, hvc⟩ := g1.size' g2
      -- the buffer
      have hbok := h.b tok _ hB
      simp only [BufOk, hβ] at hbok
      obtain ⟨hO, hF, hle, cells, el, hh, hsz, hel⟩ := hbok
      have hF0 : X.F b = 0 := by simpa using hF
      have hF1 : F1 b = 0 := by
        rw [f2 b fun t B' cap' ht hB' hb' => ?_, hF0]
        have hne : t ≠ tok := fun e => c3 (e ▸ ht)
        exact h.bb t tok B' _ b cap' b cap hB' hB hb' hβ hne rfl
      obtain ⟨x', hlk, hx'⟩ := share_look (pv.toks st) st tok _ hB
      have hx' : x' = true := hx' c3
      subst hx'
      obtain ⟨I, rfl⟩ := Int.eq_ofNat_of_zero_le h0
      simp only [Int.ofNat_eq_natCast, Int.toNat_natCast] at hx hcap hst
      have hone : ∀ u ∈ (a.eval y).cells.toList, u.oneCell' = true := by
        intro u hu
        obtain ⟨j, hj⟩ := List.mem_iff_getElem?.1 hu
        have hj' : (a.eval y).cells[j]? = some u := by simpa using hj
        have hlt : j < e.size := by rw [← hvs]; exact (Array.getElem?_eq_some_iff.1 hj').1
        have hg := hvc j hlt
        have hcl : j < (e.cells z).length := by rw [vcells_length]; exact hlt
        obtain ⟨u', hu', hr'⟩ := RepV.cells g2 j _ (List.getElem?_eq_getElem hcl)
        rw [← hg, hj'] at hu'
        cases hu'
        exact hr'.one
      have hfit : I * e.size + e.size ≤ cells.size := by
        rw [hsz]
        have := Nat.mul_le_mul_right e.size (Nat.succ_le_of_lt hcap)
        simpa [Nat.succ_mul] using this
      have hst2 := run_storeVar_at (P := P) (w := w) (off := I * e.size) (v := a.eval y) (tyB_size (hE.tyOf e1)) hh (by rw [hvs, c1]) (by rw [c1]; exact hfit) hone
      refine wp_skip' (by unfold execOp; rw [ho]; simp only [Instr.storeAt, Instr.sureAddr, hx, Sem.run_bind, Sem.run_pure, Result.andThen_ok, hst2]; rfl) ?_
      have hvl : (a.eval y).cells.toList.length = e.size := by simpa using hvs
      -- the cells behind
      have hcs : ∀ j, (cells.toList.take (I * e.size) ++ (a.eval y).cells.toList ++ cells.toList.drop (I * e.size + (a.eval y).cells.toList.length)).toArray[j]? =
          if I * e.size ≤ j ∧ j < I * e.size + e.size then (a.eval y).cells[j - I * e.size]? else cells[j]? := by
        intro j
        rw [hvl]
        simp only [List.getElem?_toArray]
        by_cases c4 : j < I * e.size
        · rw [if_neg (by omega), List.append_assoc, List.getElem?_append_left (by simp; omega), List.getElem?_take, if_pos c4]
          simp
        · by_cases c5 : j < I * e.size + e.size
          · rw [if_pos ⟨by omega, c5⟩, List.append_assoc, List.getElem?_append_right (by simp; omega), List.getElem?_append_left (by simp; omega)]
            simp only [List.length_take, Array.length_toList, Nat.min_eq_left (show I * e.size ≤ cells.size by omega)]
            simp
          · rw [if_neg (by omega), List.getElem?_append_right (by simp; omega), List.getElem?_drop]
            simp only [List.length_append, List.length_take, Array.length_toList, Nat.min_eq_left (show I * e.size ≤ cells.size by omega), hvs]
            rw [show I * e.size + e.size + (j - (I * e.size + e.size)) = j by omega]
            simp
      have hcsz : (cells.toList.take (I * e.size) ++ (a.eval y).cells.toList ++ cells.toList.drop (I * e.size + (a.eval y).cells.toList.length)).toArray.size = cells.size := by
        simp; omega
      generalize (cells.toList.take (I * e.size) ++ (a.eval y).cells.toList ++ cells.toList.drop (I * e.size + (a.eval y).cells.toList.length)).toArray = cs' at hcs hcsz hst2 ⊢
      have hnew := setRow_heap w b cells cs' el (0, 0) hh
      have hoth : ∀ b', b' ≠ b → (w.setRow b cs').heap[b']? = w.heap[b']? := fun b' hb' => setRow_other w _ b' _ hb'
      have hK : Keeps X.O F1 w (w.setRow b cs') := by
        refine ⟨by simp, fun b' hb' => hoth b' fun e => hO (e ▸ hb'), fun b' o ho => cell_of_heap (hoth b' fun e => ?_)⟩
        rw [e, hF1] at ho; omega
      have hset : (xs.set I z).length = xs.length := by simp
      have g := f4.setBuf (B' := ⟨true, e, xs.set I z⟩) hlk hβ (PC.ptrTo tok) (cs' := cs') hh (fun o ho => by have ho : o < F1 b := ho; rw [hF1] at ho; omega)
        (fun p hp => hp) (fun p h1 h2 => ⟨hset, rfl⟩) (by
          simp only [BufOk, hβ]
          refine ⟨hO, by rw [hF1]; simp, by rw [hset]; exact hle, cs', el, hnew, by rw [hcsz]; exact hsz, fun j hj => ?_⟩
          have hj' : j < xs.length := by rw [hset] at hj; exact hj
          by_cases e5 : j = I
          · subst e5
            have hg : List.get (xs.set j z) ⟨j, hj⟩ = z := by simp
            rw [hg]
            refine RepV.mono (fun _ h => h) (fun _ => Nat.le_refl _) hK e _ _ _ (fun l hl => ?_) g3
            rw [hcs, if_pos ⟨by omega, by omega⟩, ← hvc l hl, show j * e.size + l - j * e.size = l by omega]
          · have hg : List.get (xs.set I z) ⟨j, hj⟩ = List.get xs ⟨j, hj'⟩ := by
              simp only [List.get_eq_getElem]
              rw [List.getElem_set_ne (fun x => e5 x.symm)]
            rw [hg]
            refine RepV.mono (fun _ h => h) f1 (setRow_keeps' hh hO hF0) e _ _ _ (fun l hl => ?_) (hel j hj')
            rw [hcs, if_neg]
            rintro ⟨q1, q2⟩
            rcases Nat.lt_or_gt_of_ne e5 with q | q
            · have := Nat.mul_le_mul_right e.size (Nat.succ_le_of_lt q)
              rw [Nat.succ_mul] at this; omega
            · have := Nat.mul_le_mul_right e.size (Nat.succ_le_of_lt q)
              rw [Nat.succ_mul] at this; omega)
      refine hn Go.undef { X with F := F1 } _ ?_ fun hq _ => ?_
      · rw [hds, ← hst]
        exact g
      · simp [isQ, ho] at hq
    · cases hs
  · cases hs
theorem wp_store' (hE : EnvOk P E Z) (h : Rel P Z X st a w) (hd : dstOk E o = true) {T : TypeId} {x y : Operand} (ho : o.op = .store T x y) (hs : step1 E o st some = some st') (hn : Goes P E Z X st st' a w o next) : o.wp P a w next Q := by
  refine wp_store hE h hd ho hs (fun ti tok i cs v e1 e2 e3 e4 => ?_) hn
  cases hds : o.dst with
  | none => exact wp_storeElem hE h ho hds e1 e2 e3 e4 hn
  | some d =>
    unfold step1 at hs
    rw [ho, hds] at hs
    cases hs
end Go.PgAM
