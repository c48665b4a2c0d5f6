/-
  A region that is drawn: whatever order its operations come in.
-/
import Derived.Test.YtbljidhiecbcfaaAmDraw
import Derived.StillTail
namespace Go.PgAM
open Go Go.RowKit
set_option linter.unusedVariables false
set_option linter.unusedSimpArgs false

theorem put_plain (d : Option Nat) (v : PV) (σ : St) : (⟨d, v, none, []⟩ : Del).put σ = σ.setT d v := by cases d <;> rfl
theorem look_mem : ∀ {l : List (Nat × Buf)} {t : Nat} {B : Buf}, (t, B) ∈ l → look l t ≠ none
  | [], t, B, h => by simp at h
  | (n, y) :: l, t, B, h => by
    rw [look_cons]
    by_cases e : n = t
    · rw [if_pos e]; simp
    · rw [if_neg e]
      rcases List.mem_cons.1 h with e2 | h
      · cases e2; exact absurd rfl e
      · exact look_mem h
theorem newOnes_nil {old : List (Nat × Buf)} : ∀ {l : List (Nat × Buf)}, (∀ t B, (t, B) ∈ l → look old t ≠ none) → newOnes old l = []
  | [], _ => rfl
  | (t, B) :: l, h => by
    simp only [newOnes]
    have := h t B (by simp)
    split
    · rename_i e; exact absurd e this
    · exact newOnes_nil fun t B hm => h t B (by simp [hm])
theorem sub_tmp {s σ : St} (hs : Sub s σ) {n : Nat} {pv : PV} (h : s.tmp n = pv) (hd : pv ≠ .s .dead) : σ.tmp n = pv := by
  unfold St.tmp at h ⊢
  cases e : look s.t n with
  | none => rw [e] at h; exact absurd h.symm hd
  | some q =>
    rw [e] at h
    have h : q = pv := h
    subst h
    rcases hs.t n q e with e2 | ⟨e2, _⟩
    · exact absurd e2 hd
    · rw [e2]; rfl
theorem store_sub {E : Env} {o : Oper} {s st' σ : St} {T : TypeId} {t : Nat} {v : Operand} (hs : Sub s σ) (ho : o.op = .store T (.tmp t) v) (h1 : step1 E o s some = some st') {c : List PC} {r : Nat} (hr : (delOf o s st').row = some (r, c)) :
    step1 E o σ some = some ((delOf o s st').put σ) := by
  have hrow : rowOf o s = some r ∧ st'.row r = some c := by
    simp only [delOf] at hr
    obtain ⟨r2, e1, e2⟩ := Option.bind_eq_some_iff.1 hr
    obtain ⟨c2, e3, e4⟩ := Option.map_eq_some_iff.1 e2
    cases e4; exact ⟨e1, e3⟩
  have hopc : ∃ off, opc s (.tmp t) = some (.loc r off) := by
    have := hrow.1
    unfold rowOf at this
    rw [ho] at this
    simp only at this
    split at this
    · rename_i r' off e; cases this; exact ⟨off, e⟩
    · cases this
  obtain ⟨off, hopc⟩ := hopc
  unfold step1 at h1
  rw [ho] at h1
  simp only at h1
  cases hds : o.dst with
  | some d => rw [hds] at h1; cases h1
  | none =>
    rw [hds] at h1
    simp only at h1
    split at h1
    · rename_i ti r' off' pv e1 e2 e3
      rw [hopc] at e2; cases e2
      split at h1
      · rename_i cs ps e4 e5
        cases hl : Nat.beq ps.length ti.vt.size with
        | false => rw [hl] at h1; cases h1
        | true =>
          rw [hl] at h1
          simp only [cond_true] at h1
          split at h1
          · rename_i cs' e6
            have h1 := Option.some.inj h1
            have htm : σ.tmp t = .s (.loc r off) := by
              refine sub_tmp hs ?_ (by simp)
              unfold opc opv at hopc
              simp only at hopc
              split at hopc
              · rename_i p ep; cases hopc; exact Option.some.inj ep
              · cases hopc
            have hoc : opc σ (.tmp t) = some (.loc r off) := by unfold opc opv; simp only [htm]
            have hov : opv σ v = some pv := by
              cases v with
              | tmp u =>
                have e3 : s.tmp u = pv := Option.some.inj e3
                have : σ.tmp u = pv := sub_tmp hs e3 fun e => by subst e; cases e5
                show some (σ.tmp u) = some pv
                rw [this]
              | const x => exact e3
              | func f => exact e3
              | global g => exact e3
            have hrr := (hs.r r cs e4).1
            have hput : (delOf o s st').put σ = { σ with r := (r, some cs') :: σ.r } := by
              subst h1
              have e7 : (delOf o s { s with r := (r, some cs') :: s.r }).row = some (r, cs') := by
                simp only [delOf, hrow.1, Option.bind_some]
                simp [St.row, look_cons]
              have e8 : (delOf o s { s with r := (r, some cs') :: s.r }).d = none := by simp only [delOf, hds]
              have e9 : (delOf o s { s with r := (r, some cs') :: s.r }).bs = [] := by
                simp only [delOf]
                exact newOnes_nil fun t B hm => look_mem hm
              unfold Del.put
              rw [e7, e8, e9]
              rfl
            rw [hput]
            unfold step1
            rw [ho, hds]
            simp only [e1, hoc, hov, hrr, e5, hl, cond_true, e6]
          · cases h1
      · cases h1
    · rename_i ti tok i cs pv e1 e2 e3
      rw [hopc] at e2; cases e2
    · cases h1

section
variable {P : Program} {Z : At0} {E : Env} {ops : Array Oper} {dl : List (Nat × Nat)} {st0 : St} {T L : List (Nat × Del)} {m : Nat} {X : Cx} {a : Act} {w : World} {Q : Exit → Act → World → Prop}

theorem Ctx.val (C : Ctx E ops.toList dl st0 m T) (hL : ∀ p, p ∈ L → p ∈ T) (h : Rel P Z X (sig L st0) a w) {j c : Nat} {D : Del} (hj : (j, D) ∈ T) (hc : (nth ops.toList j).bind (·.dst) = some c) (hin : ∃ D, (j, D) ∈ L) :
    RelP P X (sig L st0).b w D.v (a.tmps.getD c Go.undef) := by
  obtain ⟨D', h'⟩ := hin
  have := nodup_fst C.tok.nodup (hL _ h') hj
  subst this
  have hd : D'.d = some c := by rw [C.tok.d j D' hj]; exact hc
  exact h.t c _ (sig_t h' hd fun j2 D2 h2 hd2 => (C.uniq (hL _ h2) hj hd2 hd).2)
theorem Ctx.on (C : Ctx E ops.toList dl st0 m T) (hL : ∀ p, p ∈ L → p ∈ T) (h : Rel P Z X (sig L st0) a w) {j : Nat} {b : Bool} (hg : GOn T ops.toList j b) (hin : ∃ D, (j, D) ∈ L) :
    ∃ c, (nth ops.toList j).bind (·.dst) = some c ∧ a.tmps.getD c Go.undef = .bool b := by
  obtain ⟨c, D, h1, h2, h3⟩ := hg
  have := C.val hL h h2 h1 hin
  rw [h3] at this
  exact ⟨c, h1, by simpa only [PV.bo, RelP, RelC, RepS] using this⟩
theorem Ctx.step (C : Ctx E ops.toList dl st0 m T) (hE : EnvOk P E Z) (hdo : ∀ o ∈ ops.toList, dstOk E o = true) (hL : ∀ p, p ∈ L → p ∈ T) (hc : Chain (masks [] ops.toList) L) (h : Rel P Z X (sig L st0) a w)
    {i : Nat} (hi : i < m) (hn : ∀ D, (i, D) ∉ L) (hb : ∀ b, Nat.testBit (mkm (masks [] ops.toList) i) b = true → ∃ D, (b, D) ∈ L) {K : Act → World → Prop}
    (hK : ∀ D a' X' w', (i, D) ∈ T → Rel P Z X' (sig ((i, D) :: L) st0) a' w' → K a' w') : wpOp P ops Q i K a w := by
  have hlen : i < ops.toList.length := by have := C.mle; omega
  have ho : ops.toList[i]? = some ops.toList[i] := List.getElem?_eq_getElem hlen
  generalize ops.toList[i] = o at ho
  obtain ⟨D, hD, hS⟩ := C.spec i o hi ho
  have ho' : ops[i]? = some o := by simpa using ho
  have hom : o ∈ ops.toList := List.mem_of_getElem? ho
  have hdst := hdo o hom
  have hgin : ∀ j v, o.guard = some (j, v) → ∃ D, (j, D) ∈ L := fun j v hg => hb j (C.guard i o j v ho hg)
  have hwant : GuardOn T ops.toList o → Region.wanted o (yielded ops a.tmps) = true := by
    intro hg
    unfold Region.wanted
    cases e : o.guard with
    | none => rfl
    | some q =>
      obtain ⟨j, v⟩ := q
      obtain ⟨c, h1, h2⟩ := C.on hL h (hg j v e) (hgin j v e)
      simp [yielded_of h1 h2]
  have one : Region.wanted o (yielded ops a.tmps) = true → o.wp P a w K Q → wpOp P ops Q i K a w := by
    intro h1 h2
    unfold wpOp
    rw [ho']
    simp only [h1, if_true]
    exact .inl h2
  have hEs := hE.still
  have hqs : Quiet E.still := ⟨(Tab.still_ok hE.C).2, rfl⟩
  have hK := fun a' X' w' hr => hK D a' X' w' hD hr
  have hlow := mk_low C.low i
  cases hS with
  | exec ds st' hbw hcl hk hg h1 hx hDe hsf =>
    have hs : Sub (putDels (mkm (masks [] ops.toList) i) ds st0) (sig L st0) :=
      C.sub hL hc hbw hcl hk (by omega) hlow hb (fun j b q1 q2 => mk_trans C.low (i + 1) i j b (by omega) q1 q2) (C.rowMask hL hc hi hn)
    refine one (hwant hg) ?_
    cases hq : isQ o with
    | true =>
      obtain ⟨d, hds⟩ := isQ_dst hq
      have hdn : (nth ops.toList i).bind (·.dst) = some d := by rw [nth_eq, ho]; exact hds
      have hcl := C.sigClean hL hc hi hdn hn
      refine exec_quiet hEs hqs h hs hq hdst hds hcl h1 hx (fun t B hB => ?_) fun v X' w' hr => hK _ X' w' ?_
      · have hB' : look D.bs t = some B := by rw [hDe]; exact hB
        obtain ⟨d', q1, q2, _⟩ := C.bs hD hB'
        rw [hdn] at q1; cases q1; exact q2
      · show Rel P Z X' (D.put (sig L st0)) _ w'
        rw [hDe]; exact hr
    | false =>
      have hie := C.isE i o hi ho
      unfold PgAM.isE at hie
      split at hie
      · rename_i t u v hop
        have hrow : ∃ c, D.row = some (u, c) := by
          simp only [Del.safe, Bool.and_eq_true] at hsf
          have h5 := hsf.2
          rw [hop] at h5
          simp only at h5
          split at h5
          · rename_i r cs e
            have := Nat.eq_of_beq_eq_true h5
            subst this
            exact ⟨cs, e⟩
          · cases h5
        obtain ⟨c, hrow⟩ := hrow
        have h2 := store_sub hs hop h1 (r := u) (c := c) (by have e := hrow; rw [hDe] at e; exact e)
        refine step1_ok hEs h hdst h2 fun v X' w' hr _ => hK _ X' w' ?_
        show Rel P Z X' (D.put (sig L st0)) _ w'
        rw [hDe]; exact hr
      · rw [hq] at hie; cases hie
  | skip j want hg hoff hDe =>
    obtain ⟨c, Dj, q1, q2, q3⟩ := hoff
    have hv := C.val hL h q2 q1 (hgin j want hg)
    have hw : Region.wanted o (yielded ops a.tmps) = false := by
      unfold Region.wanted
      rw [hg]
      show (yielded ops a.tmps j == some want) = false
      rcases q3 with q3 | q3
      · rw [q3] at hv
        have : a.tmps.getD c Go.undef = .bool (!want) := by simpa only [PV.bo, RelP, RelC, RepS] using hv
        rw [yielded_of q1 this]
        cases want <;> rfl
      · rw [q3] at hv
        rw [yielded_undef q1 hv]; rfl
    unfold wpOp
    rw [ho']
    simp only [hw]
    refine hK _ X w ?_
    show Rel P Z X (D.put (sig L st0)) _ w
    rw [hDe, put_plain]
    exact h.put' (dst_lt hE hdst) rfl
  | pick c j k x y b v ds hop hbw hcl hki hk hg hj hcd hm hv hDe =>
    refine one (hwant hg) ?_
    obtain ⟨c', q1, q2⟩ := C.on hL h hj (hb j hm)
    rw [hcd] at q1; cases q1
    obtain ⟨pv, q3, q4⟩ := bind_some2 hv
    have hval : a.eval (cond b x y) = .bool v := by
      cases e : cond b x y with
      | tmp u =>
        rw [e] at q3
        have q3 : (putDels (mkm (masks [] ops.toList) i) ds st0).tmp u = pv := Option.some.inj q3
        have hpv : pv = .bo v := by
          unfold asBool at q4
          split at q4
          · cases q4; rfl
          · cases q4
        subst hpv
        unfold St.tmp at q3
        cases el : look (putDels (mkm (masks [] ops.toList) i) ds st0).t u with
        | none => rw [el] at q3; cases q3
        | some pv =>
          rw [el] at q3
          have q3 : pv = .bo v := q3
          subst q3
          rcases putDels_t el with ⟨j', D', r1, r2, r3, r4⟩ | r1
          · rcases hbw j' D' r1 with r5 | ⟨⟨d, rfl⟩, _⟩
            · have := C.on hL h (j := j') (b := v) ⟨u, D', by rw [← C.tok.d j' D' r5]; exact r3, r5, r4⟩ (hb j' r2)
              obtain ⟨u', s1, s2⟩ := this
              rw [← C.tok.d j' D' r5, r3] at s1
              cases s1; exact s2
            · cases r4
          · rcases Classical.em (∃ j, j < m ∧ (nth ops.toList j).bind (·.dst) = some u) with ⟨j2, t1, t2⟩ | hne
            · rw [C.reg.dead j2 u t1 t2] at r1; cases r1
            · have := h.t u (.bo v) (by
                rw [sig_t0]
                · exact r1
                · intro j2 D2 t1 t2
                  exact hne ⟨j2, C.tok.lt (hL _ t1), by rw [← C.tok.d j2 D2 (hL _ t1)]; exact t2⟩)
              have this : a.tmps.getD u Go.undef = .bool v := by simpa only [PV.bo, RelP, RelC, RepS] using this
              exact this
      | const x =>
        rw [e] at q3
        exact asBool_ok q4 (opv_ok h (show opv (sig L st0) (.const x) = some pv from q3))
      | func f =>
        rw [e] at q3
        exact asBool_ok q4 (opv_ok h (show opv (sig L st0) (.func f) = some pv from q3))
      | global g => rw [e] at q3; cases q3
    have hrun : (execOp a.eval o).run P w = .ok (.value (.bool v)) w := by
      unfold execOp
      rw [hop]
      have e3 : a.eval (.tmp c) = .bool b := q2
      simp only [e3, Go.asBool, Sem.run_bind, Sem.run_pure, Result.andThen_ok]
      have : (if b = true then a.eval x else a.eval y) = .bool v := by cases b <;> exact hval
      rw [this]
    refine wp_value hrun (hK _ X w ?_)
    show Rel P Z X (D.put (sig L st0)) _ w
    rw [hDe, put_plain]
    exact h.put' (dst_lt hE hdst) (by simp only [PV.bo, RelP, RelC, RepS])

theorem binds_any (e : Edge) : Region.binds .any e = bindsAny e := by
  unfold Region.binds bindsAny
  cases e.ground <;> rfl
theorem exists_min : ∀ {U : List Nat}, U ≠ [] → ∃ i ∈ U, ∀ j ∈ U, i ≤ j
  | [], h => absurd rfl h
  | [x], _ => ⟨x, by simp, fun j hj => by simp at hj; omega⟩
  | x :: y :: U, _ => by
    obtain ⟨i, h1, h2⟩ := exists_min (U := y :: U) (by simp)
    by_cases e : x ≤ i
    · refine ⟨x, by simp, fun j hj => ?_⟩
      rcases List.mem_cons.1 hj with rfl | hj
      · exact Nat.le_refl _
      · exact Nat.le_trans e (h2 j hj)
    · refine ⟨i, by simp [h1], fun j hj => ?_⟩
      rcases List.mem_cons.1 hj with rfl | hj
      · omega
      · exact h2 j hj
theorem nodup_single {l : List Nat} {k : Nat} (hn : l.Nodup) (h : ∀ i, i ∈ l ↔ i = k) : l = [k] := by
  match l, hn, h with
  | [], _, h => exact absurd ((h k).2 rfl) (by simp)
  | [x], _, h => rw [(h x).1 (by simp)]
  | x :: y :: l, hn, h =>
    have h1 := (h x).1 (by simp)
    have h2 := (h y).1 (by simp)
    subst h1; subst h2
    simp at hn
theorem ready_nodup (md : Region.Mode) (ops : Array Oper) (listed : Array Bool) : (Region.ready md ops listed).Nodup := List.nodup_range.filter _
theorem ready_bits (hlow : msLow 0 (masks [] ops.toList) = true) {listed : Array Bool} (hcl : ∀ j b, listed.getD j false = true → Nat.testBit (mkm (masks [] ops.toList) j) b = true → listed.getD b false = true) {i : Nat} (hr : i ∈ Region.ready .any ops listed) :
    ∀ b, Nat.testBit (mkm (masks [] ops.toList) i) b = true → listed.getD b false = true := by
  obtain ⟨_, o, ho, he⟩ := mem_ready.1 hr
  intro b hb
  obtain ⟨e, h1, h2, h3⟩ := (mk_bit hlow (by simpa using ho : ops.toList[i]? = some o)).1 hb
  have := he e h1 (by rw [binds_any]; exact h2)
  rcases h3 with h3 | h3
  · rw [← h3]; exact this
  · exact hcl e.on b this h3
theorem ready_of (hlow : msLow 0 (masks [] ops.toList) = true) {listed : Array Bool} {i : Nat} (hi : i < ops.size) (hs : listed.size = ops.size) (hn : listed.getD i false = false) (hall : ∀ j, j < i → listed.getD j false = true) : i ∈ Region.ready .any ops listed := by
  refine mem_ready.2 ⟨getD_in (by omega) hn, ops[i], Array.getElem?_eq_getElem hi, fun e he hb => ?_⟩
  refine hall e.on (mk_low hlow i e.on ?_)
  refine (mk_bit hlow (o := ops[i]) (by simp [hi])).2 ⟨e, he, by rw [← binds_any]; exact hb, .inl rfl⟩
theorem seqB_ok (hlow : msLow 0 (masks [] ops.toList) = true) (htail : ∀ i, m ≤ i → i < ops.size → mkm (masks [] ops.toList) i = 2 ^ i - 1) : ∀ (g k : Nat) (listed : Array Bool), k + g = ops.size → m ≤ k → listed.size = ops.size → (∀ j, listed.getD j false = true ↔ j < k) → Region.seqB .any ops g k listed = true
  | 0, k, listed, hk, hm, hs, hl => by
    simp only [Region.seqB, List.isEmpty_iff]
    cases e : Region.ready .any ops listed with
    | nil => rfl
    | cons i l =>
      have : i ∈ Region.ready .any ops listed := by rw [e]; simp
      obtain ⟨h1, o, ho, _⟩ := mem_ready.1 this
      have hlt := (Array.getElem?_eq_some_iff.1 ho).1
      have := (hl i).2 (by omega)
      rw [getD_both h1] at this; cases this
  | g + 1, k, listed, hk, hm, hs, hl => by
    simp only [Region.seqB, Bool.and_eq_true, decide_eq_true_eq]
    have hcl : ∀ j b, listed.getD j false = true → Nat.testBit (mkm (masks [] ops.toList) j) b = true → listed.getD b false = true := by
      intro j b h1 h2
      have := (hl j).1 h1
      have := mk_low hlow j b h2
      exact (hl b).2 (by omega)
    have hkf : listed.getD k false = false := by
      cases e : listed.getD k false with
      | false => rfl
      | true => have := (hl k).1 e; omega
    refine ⟨nodup_single (ready_nodup _ _ _) fun i => ⟨fun hr => ?_, fun e => ?_⟩, ?_⟩
    · have hb := ready_bits hlow hcl hr
      obtain ⟨h1, o, ho, _⟩ := mem_ready.1 hr
      have hlt := (Array.getElem?_eq_some_iff.1 ho).1
      rcases Nat.lt_trichotomy i k with h2 | h2 | h2
      · have := (hl i).2 h2
        rw [getD_both h1] at this; cases this
      · exact h2
      · have := hb k (by rw [htail i (by omega) hlt, Nat.testBit_two_pow_sub_one]; simpa using h2)
        rw [hkf] at this; cases this
    · subst e
      exact ready_of hlow (by omega) hs hkf fun j hj => (hl j).2 hj
    · refine seqB_ok hlow htail g (k + 1) _ (by omega) (by omega) (by simp [hs]) fun j => ?_
      by_cases e : k = j
      · subst e
        have : k < listed.size := by omega
        simp [this]
      · rw [getD_set_ne false e, hl j]; omega

theorem Ctx.any (C : Ctx E ops.toList dl st0 m T) (hE : EnvOk P E Z) (hdo : ∀ o ∈ ops.toList, dstOk E o = true) (htail : ∀ i, m ≤ i → i < ops.size → mkm (masks [] ops.toList) i = 2 ^ i - 1)
    (hend : ∀ L X a w, Chain (masks [] ops.toList) L → (∀ p, p ∈ L → p ∈ T) → (∀ j, j < m → ∃ D, (j, D) ∈ L) → Rel P Z X (sig L st0) a w → wpList P ops Q (ops.toList.drop m) a w) :
    ∀ (f : Nat) {U : List Nat} {listed : Array Bool} {L : List (Nat × Del)} {X : Cx} {a : Act} {w : World}, U.length = f → U.Nodup → (∀ j, j ∈ U ↔ j < m ∧ ∀ D, (j, D) ∉ L) → listed.size = ops.size → (∀ j, listed.getD j false = true ↔ ∃ D, (j, D) ∈ L) →
      Chain (masks [] ops.toList) L → (∀ p, p ∈ L → p ∈ T) → Rel P Z X (sig L st0) a w → wpAny P .any ops Q (f + (ops.size - m)) listed a w := by
  intro f
  have hsz : m ≤ ops.size := by have := C.mle; simpa using this
  induction f with
  | zero =>
    intro U listed L X a w hU hUn hUm hls hlL hc hL h
    have hU0 : U = [] := List.eq_nil_of_length_eq_zero hU
    subst hU0
    have hall : ∀ j, j < m → ∃ D, (j, D) ∈ L := by
      intro j hj
      refine Classical.byContradiction fun hne => ?_
      exact absurd ((hUm j).2 ⟨hj, fun D hD => hne ⟨D, hD⟩⟩) (by simp)
    have hl : ∀ j, listed.getD j false = true ↔ j < m := fun j => (hlL j).trans ⟨fun ⟨D, hD⟩ => C.tok.lt (hL _ hD), hall j⟩
    have := wpAny_of_seq (md := .any) (Q' := Q) (ops.toList.drop m) m listed a w (fun j => by simp) (by
      have := seqB_ok C.low htail (ops.size - m) m listed (by omega) (Nat.le_refl _) hls hl
      simpa using this) (hend L X a w hc hL hall h)
    simpa using this
  | succ f ih =>
    intro U listed L X a w hU hUn hUm hls hlL hc hL h
    rw [show f + 1 + (ops.size - m) = (f + (ops.size - m)) + 1 by omega]
    have hUne : U ≠ [] := fun e => by subst e; cases hU
    have hcl : ∀ j b, listed.getD j false = true → Nat.testBit (mkm (masks [] ops.toList) j) b = true → listed.getD b false = true := by
      intro j b h1 h2
      obtain ⟨D, hD⟩ := (hlL j).1 h1
      exact (hlL b).2 (chain_closed hc hD h2)
    refine ⟨fun he => ?_, fun i hr => ?_⟩
    · exfalso
      obtain ⟨i, h1, h2⟩ := exists_min hUne
      obtain ⟨h3, h4⟩ := (hUm i).1 h1
      have : i ∈ Region.ready .any ops listed := by
        refine ready_of C.low (by omega) hls ?_ fun j hj => ?_
        · cases e : listed.getD i false with
          | false => rfl
          | true => obtain ⟨D, hD⟩ := (hlL i).1 e; exact absurd hD (h4 D)
        · refine (hlL j).2 (Classical.byContradiction fun hne => ?_)
          have := h2 j ((hUm j).2 ⟨by omega, fun D hD => hne ⟨D, hD⟩⟩)
          omega
      rw [he] at this; cases this
    · have hbits := ready_bits C.low hcl hr
      obtain ⟨h1, o, ho, _⟩ := mem_ready.1 hr
      have hlt := (Array.getElem?_eq_some_iff.1 ho).1
      have hn : ∀ D, (i, D) ∉ L := fun D hD => by
        have := (hlL i).2 ⟨D, hD⟩
        rw [getD_both h1] at this; cases this
      have him : i < m := by
        rcases Nat.lt_or_ge i m with h2 | h2
        · exact h2
        · exfalso
          obtain ⟨u, hu, _⟩ := exists_min hUne
          obtain ⟨h3, h4⟩ := (hUm u).1 hu
          have := hbits u (by rw [htail i h2 hlt, Nat.testBit_two_pow_sub_one]; simp; omega)
          obtain ⟨D, hD⟩ := (hlL u).1 this
          exact h4 D hD
      refine C.step hE hdo hL hc h him hn (fun b hb => (hlL b).1 (hbits b hb)) fun D a' X' w' hD hr' => ?_
      have hiU : i ∈ U := (hUm i).2 ⟨him, hn⟩
      refine ih (U := U.erase i) (by rw [List.length_erase_of_mem hiU]; omega) (hUn.erase i) (fun j => ?_) (by simp [hls]) (fun j => ?_) (L := (i, D) :: L) ⟨hc, hn, fun b hb => (hlL b).1 (hbits b hb)⟩ (fun p hp => ?_) hr'
      · rw [hUn.mem_erase_iff, hUm j]
        constructor
        · rintro ⟨h2, h3, h4⟩
          refine ⟨h3, fun D' hD' => ?_⟩
          rcases List.mem_cons.1 hD' with e | hD'
          · cases e; exact h2 rfl
          · exact h4 D' hD'
        · rintro ⟨h3, h4⟩
          exact ⟨fun e => by subst e; exact h4 D (by simp), h3, fun D' hD' => h4 D' (by simp [hD'])⟩
      · by_cases e : i = j
        · subst e
          have : i < listed.size := by omega
          simp [this]
        · rw [getD_set_ne false e, hlL j]
          constructor
          · rintro ⟨D', hD'⟩; exact ⟨D', by simp [hD']⟩
          · rintro ⟨D', hD'⟩
            rcases List.mem_cons.1 hD' with e2 | hD'
            · cases e2; exact absurd rfl e
            · exact ⟨D', hD'⟩
      · rcases List.mem_cons.1 hp with rfl | hp
        · exact hD
        · exact hL p hp

theorem runDraw_ok (hE : EnvOk P E Z) (hm : P.follows .mixedOrders = true) {id : Nat} {st : St} {R : Type} {k : St → Option R} {y : R} (hdo : ∀ o ∈ ops.toList, dstOk E o = true) (h : Rel P Z X st a w) (hr : runDraw E id ops.toList st k = some y)
    (hk : ∀ X' st' a' w', Rel P Z X' st' a' w' → k st' = some y → Q .normal a' w') : (Code.region id ops true).wp P Q a w := by
  refine wp_region_any hm ?_
  have h := h.drew
  show wpAny P .any ops Q ops.size (Array.replicate ops.size false) a w.drew
  unfold runDraw at hr
  simp only at hr
  obtain ⟨hc, hr⟩ := cond_some hr
  simp only [Bool.and_eq_true] at hc
  obtain ⟨⟨⟨⟨c1, c2⟩, c3⟩, c4⟩, c5⟩ := hc
  obtain ⟨F1, _, _, _, h⟩ := Rel.share ((look E.shr id).getD []) h
  generalize hm0 : max (tailAt (masks [] ops.toList) ops.toList.length) (lastPick 0 0 ops.toList) = m at hr c1 c2 c3
  have hmle : m ≤ ops.toList.length := by
    have h1 := tailAt_le (masks [] ops.toList) ops.toList.length
    have h2 := lastPick_le ops.toList 0 0
    omega
  have htl : (ops.toList.take m).length = m := by simp at hmle ⊢; omega
  have hes : ∀ i, i < m → (ops.toList.take m)[i]? = ops.toList[i]? := fun i hi => by rw [List.getElem?_take, if_pos hi]
  have h := Rel.prep (dstsOf (ops.toList.take m)) h
  generalize hst0 : (st.share ((look E.shr id).getD [])).prep (dstsOf (ops.toList.take m)) = st0 at hr h
  have hnd := noDup_ok c3
  have hdmem : ∀ j c, j < m → (nth ops.toList j).bind (·.dst) = some c → c ∈ dstsOf (ops.toList.take m) := by
    intro j c hj hc
    obtain ⟨o, h1, h2⟩ := Option.bind_eq_some_iff.1 hc
    rw [nth_eq] at h1
    exact mem_dstsOf (by rw [hes j hj]; exact h1) h2
  have hclean : ∀ j c, j < m → (nth ops.toList j).bind (·.dst) = some c → Clean c st0 ∧ look st0.t c = some (.s .dead) := by
    intro j c hj hc
    rw [← hst0]
    exact prep_clean _ (hdmem j c hj hc)
  have hreg : Reg ops.toList st0 m := by
    refine ⟨fun j j' c h1 h2 h3 h4 => ?_, fun j c h1 h2 => (hclean j c h1 h2).2, fun i o j v h1 h2 => ?_⟩
    · obtain ⟨o, q1, q2⟩ := Option.bind_eq_some_iff.1 h3
      obtain ⟨o', q3, q4⟩ := Option.bind_eq_some_iff.1 h4
      rw [nth_eq] at q1 q3
      exact dstsOf_inj hnd (by rw [hes j h1]; exact q1) (by rw [hes j' h2]; exact q3) q2 q4
    · rw [nth_eq] at h1
      have := guardsIn_ok c5 i o j v h1 h2
      rw [Nat.zero_add] at this
      exact mk_low c4 i j this
  have hdrop : ops.toList.drop 0 = ops.toList.take m ++ ops.toList.drop m := by simp
  obtain ⟨ds, T, k1, k2, k3, k4, k5, _, k7⟩ := runE_ok (ms := masks [] ops.toList) (dl := dstIx 0 (ops.toList.take m)) hreg _ hr hdrop (by omega) (T := []) (fun j D h => by simp at h) trivial ⟨rfl, fun j D h => by simp at h⟩ ⟨rfl, fun j D h => by simp at h⟩ (fun j v h => by simp at h)
  rw [htl, Nat.zero_add] at k4 k5
  have C : Ctx E ops.toList (dstIx 0 (ops.toList.take m)) st0 m T := by
    refine ⟨hmle, c4, hreg, k5, fun i o hi ho => ?_, fun j d h1 h2 => (hclean j d h1 h2).1, fun n pv hn => (h.t n pv hn).okTok, fun r c hr => ?_, fun j o d hj ho hd => ?_, fun i o t u v hi ho hop => ?_, fun i o hi ho => ?_, fun i o j v ho hg => ?_⟩
    · have := k7 i o (by rw [hes i hi]; exact ho)
      simpa using this
    · obtain ⟨_, _, cs, el, _, hc⟩ := h.r r c hr
      exact cells_all (fun p v (hx : RelK P _ _ _ p v) => RelC.okTok hx.1) hc
    · have := mem_dstIx (i := 0) (by rw [hes j hj]; exact ho) hd
      simpa using this
    · obtain ⟨q1, q2⟩ := storesOk_ok c2 i o t u v (by rw [hes i hi]; exact ho) hop
      rw [Nat.zero_add] at q1
      refine ⟨q2, ?_⟩
      obtain ⟨b, q3, q4, q5⟩ := storeOk_ok q1
      obtain ⟨q, o', q6, q7, q8⟩ := allocAt_ok q3
      rw [Nat.zero_add] at q6
      subst q6
      have hqm : b < m := by
        have := (List.getElem?_eq_some_iff.1 q7).1
        omega
      rw [hes b hqm] at q7
      refine ⟨b, hqm, by rw [nth_eq, q7]; exact q8, q4, fun i' hi' hb => q5 i' (by omega) hb⟩
    · exact List.all_eq_true.1 c1 o (List.mem_of_getElem? (by rw [hes i hi]; exact ho))
    · have := guardsIn_ok c5 i o j v ho hg
      rwa [Nat.zero_add] at this
  have hfin := C.any (Q := Q) (P := P) (Z := Z) hE hdo (fun i h1 h2 => tailAt_ok _ ops.toList.length i (by omega) (by simpa using h2)) (fun L X' a' w' hch hL hall hrel => ?_) m (U := List.range m) (listed := Array.replicate ops.size false) (L := []) (X := _) (a := a) (w := w.drew) (by simp) List.nodup_range (fun j => by simp) (by simp) (fun j => ?_) trivial (fun p hp => by simp at hp) h
  · have : m + (ops.size - m) = ops.size := by simp at hmle; omega
    rwa [this] at hfin
  · have hs : Sub (putDels (2 ^ m - 1) ds st0) (sig L st0) := by
      have hbit : ∀ b, Nat.testBit (2 ^ m - 1) b = true ↔ b < m := fun b => by rw [Nat.testBit_two_pow_sub_one]; simp
      refine C.sub hL hch k2 k3 k4 (Nat.le_refl _) (fun b hb => (hbit b).1 hb) (fun b hb => hall b ((hbit b).1 hb)) (fun j b h1 h2 => ?_) (fun j1 D1 c1 j2 D2 c2 r _ _ _ h4 _ => (hbit j2).2 (C.tok.lt (hL _ h4)))
      have := mk_low c4 j b h2
      have := (hbit j).1 h1
      exact (hbit b).2 (by omega)
    have hrel' := hrel.sub hs
    have := runOps_ok (ops := ops) (Q := Q) (tail := []) (kn := []) (P := P) _ False (fun _ _ => False) hE hrel' (fun j v h => by simp at h) (fun o ho => hdo o (List.mem_of_mem_drop ho)) k1 (fun hf => hf.elim) (fun hf => hf.elim) fun X2 st2 a2 w2 h2 hk2 _ _ => hk X2 st2 a2 w2 h2 hk2
    simpa using this
  · rw [getD_replicate_false]; simp
end
end Go.PgAM
