/-
  Operations, one by one: a part of a slice.
-/
import Derived.Test.YtbljidhiecbcfaaAmOp5
namespace Go.PgAM
open Go Go.RowKit
set_option linter.unusedVariables false
set_option linter.unusedSimpArgs false
variable {P : Program} {E : Env} {Z : At0} {X : Cx} {st st' : St} {a : Act} {w w' : World} {o : Oper} {next : Act → World → Prop} {Q : Exit → Act → World → Prop}

theorem run_sliceBound {k : IntKind} {n y : Nat} {c : BoundsCode} (h : n ≤ y) : (Instr.sliceBound (.int k n) y c).run P w = .ok n w := by
  simp [Instr.sliceBound, asIntOf, h]
def LoOk (lo : Option Value) (l : Nat) : Prop := match lo with
  | none => l = 0
  | some v => ∃ k, v = .int k l
def HiOk (hi : Option Value) (n h : Nat) : Prop := match hi with
  | none => h = n
  | some v => ∃ k, v = .int k h
theorem run_slice2 {T T' : TypeId} {sz : Nat} {ag : Bool} (hu : P.underlying T = some (.slice T')) (h3 : sizeB P T' sz ag = true) {ad : Option Addr} {n cap l h : Nat} {lo hi : Option Value} (hl : LoOk lo l) (hh : HiOk hi n h) (h1 : l ≤ h) (h2 : h ≤ cap) :
    (Instr.sliceAt T (.slice ad n cap) lo hi none).run P w = .ok (.slice (if cap = l then ad else ad.map (·.add (l * sz))) (h - l) (cap - l)) w := by
  have h4 := run_sizeOf h3 w
  cases lo with
  | none =>
    cases hl
    cases hi with
    | none => cases hh; simp [Instr.sliceAt, Instr.slice, run_underlying hu, Instr.sliceBounds, h4]
    | some v =>
      obtain ⟨k, rfl⟩ := hh
      simp [Instr.sliceAt, Instr.slice, run_underlying hu, Instr.sliceBounds, h4, run_sliceBound h2]
  | some v =>
    obtain ⟨k', rfl⟩ := hl
    cases hi with
    | none => cases hh; simp [Instr.sliceAt, Instr.slice, run_underlying hu, Instr.sliceBounds, h4, run_sliceBound h1]
    | some v =>
      obtain ⟨k, rfl⟩ := hh
      simp [Instr.sliceAt, Instr.slice, run_underlying hu, Instr.sliceBounds, h4, run_sliceBound h2, run_sliceBound h1]
theorem run_slice3 {T T' : TypeId} {sz : Nat} {ag : Bool} (hu : P.underlying T = some (.slice T')) (h3 : sizeB P T' sz ag = true) {ad : Option Addr} {n cap l h m : Nat} {lo : Option Value} {k k' : IntKind} (hl : LoOk lo l) (h1 : l ≤ h) (h2 : h ≤ m) (h5 : m ≤ cap) :
    (Instr.sliceAt T (.slice ad n cap) lo (some (.int k h)) (some (.int k' m))).run P w = .ok (.slice (if m = l then ad else ad.map (·.add (l * sz))) (h - l) (m - l)) w := by
  have h4 := run_sizeOf h3 w
  cases lo with
  | none =>
    cases hl
    simp [Instr.sliceAt, Instr.slice, run_underlying hu, Instr.sliceBounds, h4, run_sliceBound h2, run_sliceBound h5]
  | some v =>
    obtain ⟨k'', rfl⟩ := hl
    simp [Instr.sliceAt, Instr.slice, run_underlying hu, Instr.sliceBounds, h4, run_sliceBound h2, run_sliceBound h5, run_sliceBound h1]

/-- A part of a list in memory. -/
theorem RepS.part {O : Nat → Prop} {F : Nat → Nat} {e : VT} {xs : List e.I} {ad : Option Addr} {cap l h m : Nat} (hr : RepS P (.sl e) O F w xs (.slice ad xs.length cap)) (h1 : l ≤ h) (h2 : h ≤ xs.length) (h3 : h ≤ m) :
    RepS P (.sl e) O F w ((xs.take h).drop l) (.slice (if m = l then ad else ad.map (·.add (l * e.size))) (h - l) (m - l)) := by
  have hlen : List.length (α := e.I) ((xs.take h).drop l) = h - l := by simp; omega
  simp only [RepS] at hr ⊢
  obtain ⟨a', cap', hv, hc, hx⟩ := hr
  cases hv
  refine ⟨_, m - l, by rw [hlen], by rw [hlen]; omega, ?_⟩
  rcases Nat.eq_or_lt_of_le h1 with e1 | e1
  · exact .inl (hlen.trans (by omega))
  · rcases hx with hx | ⟨b, off, rfl, hF, hel⟩
    · have : List.length (α := e.I) xs = 0 := hx
      exact .inl (hlen.trans (by have h2 : h ≤ List.length (α := e.I) xs := h2; omega))
    · refine .inr ⟨b, off + l * e.size, ?_, ?_, fun i hi => ?_⟩
      · rw [if_neg (by omega)]; simp [add_at]
      · have hm : (l + (h - l)) * e.size ≤ List.length (α := e.I) xs * e.size := Nat.mul_le_mul_right _ (by have h2 : h ≤ List.length (α := e.I) xs := h2; omega)
        rw [Nat.add_mul] at hm; rw [hlen]; omega
      · have hi0 := hi
        rw [hlen] at hi0
        have hi' : l + i < List.length (α := e.I) xs := by have h2 : h ≤ List.length (α := e.I) xs := h2; omega
        have hg : List.get (α := e.I) ((xs.take h).drop l) ⟨i, hi⟩ = List.get (α := e.I) xs ⟨l + i, hi'⟩ := by
          simp
        have := hel (l + i) hi'
        rw [← hg] at this
        refine RepV.mono (fun _ h => h) (fun _ => Nat.le_refl _) (Keeps.refl _ _ _) e _ _ _ (fun j hj => ?_) this
        rw [Nat.add_mul]; simp only [Nat.add_assoc]
theorem grd_some {R : Type} {c : Bool} {k : Option R} {y : R} (h : grd c k = some y) : c = true ∧ k = some y := by
  cases c with
  | true => exact ⟨rfl, h⟩
  | false => cases h
theorem Rel.share' (h : Rel P Z X st a w) (ts : List Nat) (dst : Option Nat) : ∃ F1, Rel P Z { X with F := F1 } (st.share ts) a w ∧ (∀ b, X.F b ≤ F1 b) ∧
    (∀ t B b cap, t ∈ ts → look st.b t = some B → X.β t = some (b, cap) → B.xs.length * B.e.size ≤ F1 b) ∧ ∀ pv, Step X { X with F := F1 } st ((st.share ts).setT dst pv) w w dst := by
  obtain ⟨F1, f1, f2, f3, f4⟩ := Rel.share ts h
  refine ⟨F1, f4, f1, f3, fun pv => ?_⟩
  have hb : ((st.share ts).setT dst pv).b = (st.share ts).b := by cases dst <;> rfl
  refine ⟨Ext.refl _, fun b hb => ?_, f1, fun _ _ => rfl, fun _ => .inl rfl, fun t _ => ⟨rfl, fun B hB => ?_⟩, fun hf d t B b cap e ht hB hβ => ?_⟩
  · rcases Classical.em (∃ t B cap, look st.b t = some B ∧ X.β t = some (b, cap)) with e | e
    · exact .inr e
    · exact .inl (f2 b fun t B cap _ hB hb => e ⟨t, B, cap, hB, hb⟩)
  · rw [hb]
    obtain ⟨x, e, _⟩ := share_look ts st t B hB
    exact ⟨x, e⟩
  · rw [hb] at hB
    obtain ⟨x, e2⟩ := share_some hB
    rw [hf d t e ht] at e2; cases e2
theorem hi_ok (h : Rel P Z X st a w) {hi : Option Operand} {n : Nat} {i : Int} (e0 : (match hi with | none => some ((n : Nat) : Int) | some h => oInt st h) = some i) (hp : 0 ≤ i) : HiOk (hi.map a.eval) n i.toNat := by
  cases hi with
  | none => cases e0; simp [HiOk]
  | some hop =>
    obtain ⟨k, hk⟩ := oInt_ok h e0
    exact ⟨k, by rw [hk, Int.toNat_of_nonneg hp]⟩
theorem lo_ok (h : Rel P Z X st a w) {lo : Option Operand} {i : Int} (e0 : (match lo with | none => some 0 | some l => oInt st l) = some i) (hp : 0 ≤ i) : LoOk (lo.map a.eval) i.toNat := by
  cases lo with
  | none => cases e0; rfl
  | some lop =>
    obtain ⟨k, hk⟩ := oInt_ok h e0
    exact ⟨k, by rw [hk, Int.toNat_of_nonneg hp]⟩
theorem wp_slice (hE : EnvOk P E Z) (h : Rel P Z X st a w) (hd : dstOk E o = true) {T : TypeId} {x : Operand} {lo hi mx : Option Operand} (ho : o.op = .slice T x lo hi mx) (hs : step1 E o st some = some st') (hn : Goes P E Z X st st' a w o next) : o.wp P a w next Q := by
  unfold step1 at hs
  rw [ho] at hs
  simp only at hs
  split at hs
  · rename_i ti p e1 e2
    split at hs
    · rename_i e' e xs ot e3 e4
      split at hs
      · cases hs
      rename_i hsz
      have hsz := Nat.eq_of_beq_eq_true hsz
      obtain ⟨T', _, hu, h3, _⟩ := tyB_sl (hE.tyOf e1) e3
      have hx := opc_ok h e2
      -- the slice itself
      have src : ∃ ad cap, a.eval x = .slice ad (List.length xs) cap ∧ List.length xs ≤ cap ∧
          ((ot = none ∧ RepS P (.sl e) X.O X.F w xs (a.eval x)) ∨ ∃ tok x, ot = some tok ∧ look st.b tok = some ⟨x, e, xs⟩ ∧ ((X.β tok = none ∧ List.length xs = 0 ∧ cap = 0) ∨ ∃ b, X.β tok = some (b, cap) ∧ ad = some ⟨b, 0, none⟩)) := by
        split at e4
        · rename_i e0 xs0
          cases e4
          have hr : RepS P (.sl e) X.O X.F w xs (a.eval x) := hx
          have hr' := hr
          simp only [RepS] at hr'
          obtain ⟨ad, cap, hv, hc, _⟩ := hr'
          exact ⟨ad, cap, hv, hc, .inl ⟨rfl, hr⟩⟩
        · rename_i tok
          split at e4
          · rename_i B hB
            cases e4
            obtain ⟨B', hB', hv⟩ := hx
            have : B' = B := Option.some.inj (hB'.symm.trans hB)
            subst this
            have hbok := h.b tok B' hB
            unfold SlAt at hv
            cases hβ : X.β tok with
            | none =>
              rw [hβ] at hv
              obtain ⟨h0, ad, hv⟩ := hv
              exact ⟨ad, 0, by rw [hv, h0], by omega, .inr ⟨tok, B'.x, rfl, hB, .inl ⟨hβ, h0, rfl⟩⟩⟩
            | some q =>
              obtain ⟨b, cap⟩ := q
              rw [hβ] at hv
              simp only [BufOk, hβ] at hbok
              exact ⟨_, cap, hv, hbok.2.2.1, .inr ⟨tok, B'.x, rfl, hB, .inr ⟨b, hβ, rfl⟩⟩⟩
          · cases e4
        · cases e4
      obtain ⟨ad, cap, hv, hcap, hsrc⟩ := src
      -- a part that is a list from now on
      have listed : ∀ (l hh m : Nat), l ≤ hh → hh ≤ List.length xs → hh ≤ m →
          (∀ tok, ot = some tok → ((st.share [tok]).setT o.dst (.s (.d ⟨.sl e, (xs.take hh).drop l⟩))) = st') → (ot = none → st.setT o.dst (.s (.d ⟨.sl e, (xs.take hh).drop l⟩)) = st') →
          next (a.put o.dst (.slice (if m = l then ad else ad.map (·.add (l * e.size))) (hh - l) (m - l))) w := by
        intro l hh m q1 q2 q3 k1 k2
        rcases hsrc with ⟨e5, hr⟩ | ⟨tok, bx, e5, hB, hβ⟩
        · rw [hv] at hr
          exact hn.pure h (dst_lt hE hd) (pv := .s (.d ⟨.sl e, (xs.take hh).drop l⟩)) (RepS.part hr q1 q2 q3) (k2 e5)
        · obtain ⟨F1, g1, g2, g3, g4⟩ := h.share' [tok] o.dst
          have hsl : SlAt X.β tok (List.length xs) (.slice ad (List.length xs) cap) := by
            unfold SlAt
            rcases hβ with ⟨h1, h2, h3⟩ | ⟨b, h1, h2⟩
            · rw [h1]; exact ⟨h2, ad, by rw [h2, h3]⟩
            · rw [h1, h2]
          have hr := h.snap g2 hB hsl fun b cap hb => g3 tok _ b cap (by simp) hB hb
          refine hn _ { X with F := F1 } w ?_ fun _ _ => ?_
          · rw [← k1 tok e5]; exact g1.put' (dst_lt hE hd) (pv := .s (.d ⟨.sl e, (xs.take hh).drop l⟩)) (RepS.part hr q1 q2 q3)
          · rw [← k1 tok e5]; exact g4 _
      split at hs
      · rename_i hh l eh el
        obtain ⟨c1, hs1⟩ := grd_some hs
        obtain ⟨c2, hs2⟩ := grd_some hs1
        obtain ⟨c3, hs3⟩ := grd_some hs2
        have c1 : 0 ≤ l := of_decide_eq_true c1
        have c2 : l ≤ hh := of_decide_eq_true c2
        have c3 : hh ≤ ((List.length xs : Nat) : Int) := of_decide_eq_true c3
        have n1 : l.toNat ≤ hh.toNat := by omega
        have n2 : hh.toNat ≤ List.length xs := by omega
        have hrun := run_slice2 (w := w) hu h3 (ad := ad) (n := List.length xs) (cap := cap) (lo_ok h el c1) (hi_ok h eh (by omega)) n1 (by omega)
        rw [hsz] at hrun
        refine wp_value (v := .slice (if cap = l.toNat then ad else ad.map (·.add (l.toNat * e.size))) (hh.toNat - l.toNat) (cap - l.toNat)) (w' := w) (by unfold execOp; rw [ho]; simp only [hv, Option.map_none, Sem.run_bind, hrun, Result.andThen_ok, Sem.run_pure]) ?_
        split at hs3
        · rename_i tok esh elo
          rcases hsrc with ⟨e5, _⟩ | ⟨tok', bx, e5, hB, hβ⟩
          · cases e5
          cases e5
          have hl0 : l = 0 := by cases el; rfl
          subst hl0
          refine hn.pure h (dst_lt hE hd) ?_ (Option.some.inj hs3)
          refine ⟨_, hB, n2, ?_⟩
          unfold SlAt
          rcases hβ with ⟨h1, h2, h3⟩ | ⟨b, h1, h2⟩
          · rw [h1]
            have : hh.toNat = 0 := by omega
            exact ⟨this, by simp [this, h3]⟩
          · rw [h1, h2]; simp [add_at]
        · rename_i tok lop esh elo ehi
          rcases hsrc with ⟨e5, _⟩ | ⟨tok', bx, e5, hB, hβ⟩
          · cases e5
          cases e5
          have hh0 : hh.toNat = List.length xs := by cases eh; simp
          refine hn.pure h (dst_lt hE hd) ?_ (Option.some.inj hs3)
          refine ⟨_, hB, (show l.toNat ≤ List.length xs by omega), ?_⟩
          rcases hβ with ⟨h1, h2, h3⟩ | ⟨b, h1, h2⟩
          · rw [h1]
            exact ⟨if cap = l.toNat then ad else ad.map (·.add (l.toNat * e.size)), by rw [hh0]; simp [h2, h3]⟩
          · rw [h1, hh0, h2]
            by_cases ec : cap = l.toNat
            · exact ⟨⟨b, 0, none⟩, by rw [if_pos ec], fun hlt => by omega⟩
            · exact ⟨⟨b, l.toNat * e.size, none⟩, by rw [if_neg ec]; simp [add_at], fun _ => rfl⟩
        · cases hs3
        · rename_i tok esh
          exact listed l.toNat hh.toNat cap n1 n2 (by omega) (fun t et => by cases et; exact Option.some.inj hs3) (fun e => by cases e)
        · exact listed l.toNat hh.toNat cap n1 n2 (by omega) (fun t et => by cases et) (fun _ => Option.some.inj hs3)
      · rename_i hh l mo eh el
        split at hs
        · rename_i m dd hop em ed
          obtain ⟨c1, hs1⟩ := grd_some hs
          obtain ⟨c2, hs2⟩ := grd_some hs1
          obtain ⟨c3, hs3⟩ := grd_some hs2
          obtain ⟨c4, hs4⟩ := grd_some hs3
          have c1 : 0 ≤ l := of_decide_eq_true c1
          have c2 : l ≤ hh := of_decide_eq_true c2
          have c3 : hh ≤ m := of_decide_eq_true c3
          have c4 : m ≤ ((List.length xs : Nat) : Int) := of_decide_eq_true c4
          have n1 : l.toNat ≤ hh.toNat := by omega
          have n2 : hh.toNat ≤ m.toNat := by omega
          have n3 : m.toNat ≤ List.length xs := by omega
          obtain ⟨k, hk⟩ := oInt_ok h (show oInt st hop = some hh from eh)
          obtain ⟨k', hk'⟩ := oInt_ok h em
          have hrun := run_slice3 (w := w) hu h3 (ad := ad) (n := List.length xs) (cap := cap) (k := k) (k' := k') (lo_ok h el c1) n1 n2 (by omega)
          rw [hsz, Int.toNat_of_nonneg (show 0 ≤ hh by omega), Int.toNat_of_nonneg (show 0 ≤ m by omega)] at hrun
          refine wp_value (v := .slice (if m.toNat = l.toNat then ad else ad.map (·.add (l.toNat * e.size))) (hh.toNat - l.toNat) (m.toNat - l.toNat)) (w' := w) (by unfold execOp; rw [ho]; simp only [hv, hk, hk', Option.map_some, Sem.run_bind, hrun, Result.andThen_ok, Sem.run_pure]) ?_
          split at hs4
          · exact listed l.toNat hh.toNat m.toNat n1 (by omega) n2 (fun t et => by cases et; exact Option.some.inj hs4) (fun e => by cases e)
          · exact listed l.toNat hh.toNat m.toNat n1 (by omega) n2 (fun t et => by cases et) (fun _ => Option.some.inj hs4)
        · cases hs
      · cases hs
    · cases hs
  · cases hs
end Go.PgAM
