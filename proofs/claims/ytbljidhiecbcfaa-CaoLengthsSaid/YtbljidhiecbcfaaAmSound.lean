/-
  A function that the machine has run keeps its contract.
-/
import Derived.Test.YtbljidhiecbcfaaAmCode
namespace Go.PgAM
open Go Go.RowKit
set_option linter.unusedVariables false
set_option linter.unusedSimpArgs false
variable {P : Program} {Z : At0} {X X' : Cx} {st st' : St} {a : Act} {w w' : World} {E : Env}

theorem blk_apart : ∀ {qs : List (Option (Nat × Nat))}, (blk qs).Nodup → ∀ {j j' b c b' c' : Nat}, qs[j]? = some (some (b, c)) → qs[j']? = some (some (b', c')) → j ≠ j' → b ≠ b'
  | [], _, j, j', b, c, b', c', h, _, _ => by simp at h
  | q :: qs, hn, j, j', b, c, b', c', h1, h2, hne => by
    have mem : ∀ {j b c}, qs[j]? = some (some (b, c)) → b ∈ blk qs := fun h => mem_blk.2 ⟨_, List.mem_of_getElem? h⟩
    cases j with
    | zero =>
      simp at h1; subst h1
      cases j' with
      | zero => exact absurd rfl hne
      | succ j' =>
        simp only [blk, List.nodup_cons] at hn
        intro e; subst e
        exact hn.1 (mem (by simpa using h2))
    | succ j =>
      cases j' with
      | zero =>
        simp at h2; subst h2
        simp only [blk, List.nodup_cons] at hn
        intro e; subst e
        exact hn.1 (mem (by simpa using h1))
      | succ j' =>
        have hn' : (blk qs).Nodup := by
          cases q with
          | none => exact hn
          | some q => simp only [blk, List.nodup_cons] at hn; exact hn.2
        exact blk_apart hn' (by simpa using h1) (by simpa using h2) (by omega)

theorem enc_rel {bs : List (Nat × Buf)} {v : VT} {x : v.I} {u : Value} {g : Nat → Option Value} (hw : Whole v u g) (hr : RepV P v X.O X.F w x g) : RelP P X bs w (encVT v x) u := by
  cases v with
  | sc s =>
    simp only [Whole] at hw
    subst hw
    simp only [RepV] at hr
    obtain ⟨u', hu, hs⟩ := hr
    cases hu
    exact hs
  | ag cs =>
    obtain ⟨cells, rfl, hsz, rfl⟩ := hw
    simp only [RepV] at hr
    exact ⟨cells, rfl, RepV.dcells rfl rfl hsz hr⟩
theorem initT_ok {bs : List (Nat × Buf)} : ∀ {as : List AS} {i : Nat} {z : ASs.I as} {us : List Value} {qs : List (Option (Nat × Nat))}, ArgsOk P X.O X.F w as z us qs → (∀ j q, qs[j]? = some q → X.β (i + j) = q) → (∀ b, b ∈ blk qs → ¬ X.O b) → (∀ t B, look (initT i as z).2 t = some B → look bs t = some B) →
    us.length = as.length ∧ (∀ n pv, look (initT i as z).1 n = some pv → ∃ j u, n = i + j ∧ us[j]? = some u ∧ RelP P X bs w pv u) ∧
      (∀ t B, look (initT i as z).2 t = some B → ∃ j, t = i + j ∧ qs[j]? = some (X.β t) ∧ BufOk P X w t B)
  | [], i, z, us, qs, h, hβ, hO, hb => by
    obtain ⟨rfl, rfl⟩ := h
    exact ⟨rfl, (fun n pv h => by cases h), (fun t B h => by cases h)⟩
  | c :: as, i, z, us, qs, h, hβ, hO, hb => by
    obtain ⟨u, us', q, qs', rfl, rfl, h1, h2⟩ := h
    have hq0 : X.β i = q := by simpa using hβ 0 q (by simp)
    have tailβ : ∀ j q', qs'[j]? = some q' → X.β (i + 1 + j) = q' := fun j q' hq => by
      have := hβ (j + 1) q' (by simpa using hq)
      rwa [show i + (j + 1) = i + 1 + j by omega] at this
    have tailO : ∀ b, b ∈ blk qs' → ¬ X.O b := fun b hbm => hO b (by
      cases q with
      | none => exact hbm
      | some q => simp [blk, hbm])
    have up1 : ∀ {n pv}, (∃ j u', n = i + 1 + j ∧ us'[j]? = some u' ∧ RelP P X bs w pv u') → ∃ j u', n = i + j ∧ (u :: us')[j]? = some u' ∧ RelP P X bs w pv u' := fun ⟨j, u', e1, e2, e3⟩ => ⟨j + 1, u', by omega, by simpa using e2, e3⟩
    have up2 : ∀ {t B}, (∃ j, t = i + 1 + j ∧ qs'[j]? = some (X.β t) ∧ BufOk P X w t B) → ∃ j, t = i + j ∧ (q :: qs')[j]? = some (X.β t) ∧ BufOk P X w t B := fun ⟨j, e1, e2, e3⟩ => ⟨j + 1, by omega, by simpa using e2, e3⟩
    cases c with
    | d v =>
      obtain ⟨hq, g, hw, hr⟩ := h1
      obtain ⟨k1, k2, k3⟩ := initT_ok (i := i + 1) (bs := bs) h2 tailβ tailO fun t B h => hb t B h
      refine ⟨by simp [k1], fun n pv hn => ?_, fun t B hB => up2 (k3 t B hB)⟩
      simp only [initT, look_cons] at hn
      by_cases e : i = n
      · rw [if_pos e] at hn; cases hn
        exact ⟨0, u, by omega, by simp, enc_rel hw hr⟩
      · rw [if_neg e] at hn; exact up1 (k2 n pv hn)
    | ref cs =>
      obtain ⟨hq, hr⟩ := h1
      obtain ⟨k1, k2, k3⟩ := initT_ok (i := i + 1) (bs := bs) h2 tailβ tailO fun t B h => hb t B h
      refine ⟨by simp [k1], fun n pv hn => ?_, fun t B hB => up2 (k3 t B hB)⟩
      simp only [initT, look_cons] at hn
      by_cases e : i = n
      · rw [if_pos e] at hn; cases hn
        exact ⟨0, u, by omega, by simp, hr⟩
      · rw [if_neg e] at hn; exact up1 (k2 n pv hn)
    | mv e =>
      have hlt : ∀ {as : List AS} {i : Nat} {z : ASs.I as} {t : Nat} {B : Buf}, look (initT i as z).2 t = some B → i ≤ t := by
        intro as
        induction as with
        | nil => intro i z t B h; cases h
        | cons c as ih =>
          intro i z t B h
          cases c with
          | d v => have := ih (show look (initT (i + 1) as z.2).2 t = some B from h); omega
          | ref cs => have := ih (show look (initT (i + 1) as z.2).2 t = some B from h); omega
          | mv e =>
            simp only [initT, look_cons] at h
            by_cases e2 : i = t
            · omega
            · rw [if_neg e2] at h; have := ih h; omega
      obtain ⟨k1, k2, k3⟩ := initT_ok (i := i + 1) (bs := bs) h2 tailβ tailO fun t B h => hb t B (by
        have := hlt h
        simp only [initT, look_cons]
        rw [if_neg (by omega)]; exact h)
      have hbi : look bs i = some ⟨true, e, z.1⟩ := hb i _ (by simp [initT, look_cons])
      have hbv : BufVal P X.O X.F w e z.1 u q := h1
      have hbuf : SlAt X.β i (List.length (α := e.I) z.1) u ∧ BufOk P X w i ⟨true, e, z.1⟩ := by
        cases q with
        | none =>
          obtain ⟨h0, a', hu⟩ := hbv
          refine ⟨by simp only [SlAt, hq0]; exact ⟨h0, a', hu⟩, by simp only [BufOk, hq0]; exact h0⟩
        | some q =>
          obtain ⟨b, cap⟩ := q
          obtain ⟨hu, hF, hle, cs, el, hh, hs, hel⟩ := hbv
          exact ⟨by simp only [SlAt, hq0]; exact hu, by simp only [BufOk, hq0]; exact ⟨hO b (by simp [blk]), by simp [hF], hle, cs, el, hh, hs, hel⟩⟩
      refine ⟨by simp [k1], fun n pv hn => ?_, fun t B hB => ?_⟩
      · simp only [initT, look_cons] at hn
        by_cases e2 : i = n
        · rw [if_pos e2] at hn; cases hn
          exact ⟨0, u, by omega, by simp, ⟨_, hbi, hbuf.1⟩⟩
        · rw [if_neg e2] at hn; exact up1 (k2 n pv hn)
      · simp only [initT, look_cons] at hB
        by_cases e2 : i = t
        · subst e2
          rw [if_pos rfl] at hB; cases hB
          exact ⟨0, by omega, by simp [hq0], hbuf.2⟩
        · rw [if_neg e2] at hB; exact up2 (k3 t B hB)

/-- Results, from the machine's state. -/
theorem resPVs_ok (hE : EnvOk P E Z) (h : Rel P Z X st a w) (f : ResultVar → Sem Value) (hf1 : ∀ t, f (.tmp t) = pure (a.tmps.getD t Go.undef)) (hf2 : ∀ c t, f (.cell c t) = do loadVar t (← asAddr (a.tmps.getD c Go.undef))) : ∀ {rs : List ResultVar} {vs : List PV}, resPVs E st rs = some vs →
    ∃ us, (rs.mapM f).run P w = .ok us w ∧ All2 (RelP P X st.b w) vs us
  | [], vs, e => by cases e; exact ⟨[], by simp, trivial⟩
  | r :: rs, vs, e => by
    simp only [resPVs] at e
    split at e
    · rename_i v vs' e1 e2
      have e := Option.some.inj e
      subst e
      obtain ⟨us, k1, k2⟩ := resPVs_ok hE h f hf1 hf2 e2
      have key : ∃ u, (f r).run P w = .ok u w ∧ RelP P X st.b w v u := by
        cases r with
        | tmp t =>
          have e1 := Option.some.inj e1
          subst e1
          exact ⟨_, by rw [hf1]; rfl, tmp_ok h t⟩
        | cell t T =>
          simp only at e1
          split at e1
          · rename_i ti r off e3 e4
            split at e1
            · rename_i cs e5
              obtain ⟨_, _, cs', el, hh, ha⟩ := h.r r cs e5
              have hp := tmp_ok h t
              rw [e4] at hp
              have hp : a.tmps.getD t Go.undef = .pointer (some ⟨X.ρ r, off, none⟩) := hp
              obtain ⟨u, q1, q2⟩ := run_loadVar (tyB_size (hE.tyOf e3)) (All2.drop off ha) (row_lie hh) e1
              refine ⟨u, ?_, q2⟩
              rw [hf2, hp]
              simp [asAddr, q1]
            · cases e1
          · cases e1
      obtain ⟨u, q1, q2⟩ := key
      refine ⟨u :: us, ?_, q2, k2⟩
      rw [List.mapM_cons]
      simp only [Sem.run_bind]
      rw [q1]
      simp only [Result.andThen_ok, Sem.run_bind]
      rw [k1]
      simp
    · cases e
theorem decRess_cons {C : Tab} {r r' : RS} {rs : List RS} {v : PV} {vs : List PV} {y : r.I × RSs.I (r' :: rs)} (h : decRess C st (r :: r' :: rs) (v :: vs) = some y) : decRes C st r v = some y.1 ∧ decRess C st (r' :: rs) vs = some y.2 := by
  have h : (match decRes C st r v, decRess C st (r' :: rs) vs with
    | some x, some y => some (x, y)
    | _, _ => none) = some y := h
  split at h
  · rename_i x z h1 h2
    have h := Option.some.inj h
    subst h; exact ⟨h1, h2⟩
  · cases h
def resQ (β : Nat → Option (Nat × Nat)) : RS → PV → Option (Nat × Nat)
  | .fresh _, .s (.own tok) => β tok
  | _, _ => none
def resQs (β : Nat → Option (Nat × Nat)) : List RS → List PV → List (Option (Nat × Nat))
  | r :: rs, v :: vs => resQ β r v :: resQs β rs vs
  | _, _ => []
theorem resQs_mem {β : Nat → Option (Nat × Nat)} {q : Nat × Nat} : ∀ {rs : List RS} {vs : List PV}, some q ∈ resQs β rs vs → ∃ tok, tok ∈ resNew rs vs ∧ β tok = some q
  | [], vs, h => by cases vs <;> simp [resQs] at h
  | _ :: _, [], h => by simp [resQs] at h
  | r :: rs, v :: vs, h => by
    simp only [resQs, List.mem_cons] at h
    have tl : ∀ {tok}, tok ∈ resNew rs vs → tok ∈ resNew (r :: rs) (v :: vs) := by
      intro tok ht
      unfold resNew
      split
      · rename_i e1 e2
        cases e1; cases e2
        simp [ht]
      · rename_i e1 e2
        cases e1; cases e2
        exact ht
      · rename_i hn1 hn2
        exact absurd rfl (hn2 r rs v vs rfl)
    rcases h with h | h
    · unfold resQ at h
      split at h
      · rename_i e tok
        exact ⟨tok, by simp [resNew], h.symm⟩
      · cases h
    · obtain ⟨tok, h1, h2⟩ := resQs_mem h
      exact ⟨tok, tl h1, h2⟩
theorem decRess_new {C : Tab} : ∀ {rs : List RS} {vs : List PV} {y : RSs.I rs}, decRess C st rs vs = some y → ∀ t, t ∈ resNew rs vs → ∃ B, look st.b t = some B ∧ B.x = true := by
  have one : ∀ {r : RS} {v : PV} {y : r.I}, decRes C st r v = some y → ∀ t, t ∈ resNew [r] [v] → ∃ B, look st.b t = some B ∧ B.x = true := by
    intro r v y h t ht
    unfold resNew at ht
    split at ht
    · rename_i e _ tok _ e1 e2
      cases e1; cases e2
      simp [resNew] at ht
      subst ht
      simp only [decRes] at h
      obtain ⟨_, h⟩ := cond_some h
      cases hB : look st.b t with
      | none => rw [hB] at h; cases h
      | some B =>
        obtain ⟨x, e', xs⟩ := B
        rw [hB] at h
        cases x with
        | true => exact ⟨_, rfl, rfl⟩
        | false => cases h
    · rename_i e1 e2; cases e1; cases e2; simp [resNew] at ht
    · simp at ht
  intro rs
  induction rs with
  | nil => intro vs y h t ht; simp [resNew] at ht
  | cons r rs ih =>
    intro vs y h t ht
    cases vs with
    | nil => cases rs <;> cases h
    | cons v vs =>
      have split1 : t ∈ resNew [r] [v] ∨ t ∈ resNew rs vs := by
        unfold resNew at ht
        split at ht
        · rename_i e1 e2
          cases e1; cases e2
          rcases List.mem_cons.1 ht with rfl | ht
          · left; simp [resNew]
          · exact .inr ht
        · rename_i e1 e2; cases e1; cases e2; exact .inr ht
        · simp at ht
      cases rs with
      | nil =>
        cases vs with
        | nil =>
          rcases split1 with h1 | h1
          · exact one (show decRes C st r v = some y from h) t h1
          · simp [resNew] at h1
        | cons _ _ => cases h
      | cons r' rs =>
        obtain ⟨h1, h2⟩ := decRess_cons h
        rcases split1 with h3 | h3
        · exact one h1 t h3
        · exact ih h2 t h3
theorem resQs_nodup {β : Nat → Option (Nat × Nat)} : ∀ {rs : List RS} {vs : List PV}, (resNew rs vs).Nodup →
    (∀ t t' b cap cap', t ∈ resNew rs vs → t' ∈ resNew rs vs → β t = some (b, cap) → β t' = some (b, cap') → t = t') → (blk (resQs β rs vs)).Nodup
  | [], vs, h, hi => by cases vs <;> simp [resQs, blk]
  | _ :: _, [], h, hi => by simp [resQs, blk]
  | r :: rs, v :: vs, h, hi => by
    have other : resNew (r :: rs) (v :: vs) = resNew rs vs → resQ β r v = none → (blk (resQs β (r :: rs) (v :: vs))).Nodup := by
      intro e1 e2
      rw [e1] at h hi
      simp only [resQs, e2, blk]
      exact resQs_nodup h hi
    cases r with
    | d t => exact other rfl rfl
    | fresh e =>
      cases v with
      | agg ps => exact other rfl rfl
      | tup vs => exact other rfl rfl
      | s p =>
        cases p with
        | own tok =>
          have e1 : resNew (.fresh e :: rs) (.s (.own tok) :: vs) = tok :: resNew rs vs := rfl
          rw [e1] at h hi
          simp only [List.nodup_cons] at h
          have ih := resQs_nodup h.2 fun t t' b cap cap' h1 h2 => hi t t' b cap cap' (by simp [h1]) (by simp [h2])
          show (blk (β tok :: resQs β rs vs)).Nodup
          cases e2 : β tok with
          | none => exact ih
          | some q =>
            obtain ⟨b, cap⟩ := q
            simp only [blk, List.nodup_cons]
            refine ⟨fun hm => ?_, ih⟩
            obtain ⟨cap', hm⟩ := mem_blk.1 hm
            obtain ⟨t', h1, h2⟩ := resQs_mem hm
            have := hi tok t' b cap cap' (by simp) (by simp [h1]) e2 h2
            subst this; exact h.1 h1
        | _ => exact other rfl rfl
theorem decRess_ok (hC : SoundTab P E.C) (h : Rel P Z X st a w) {F1 : Nat → Nat} {ts : List Nat} (hs : Shown X st (fun b => b < w.heap.size) F1 ts) (hF : ∀ t, ∀ B b cap, look st.b t = some B → X.β t = some (b, cap) → t ∉ ts → F1 b = X.F b) :
    ∀ {rs : List RS} {vs : List PV} {us : List Value} {y : RSs.I rs}, decRess E.C st rs vs = some y → All2 (RelP P X st.b w) vs us → (∀ t, t ∈ resOld st rs vs → t ∈ ts) → (∀ t, t ∈ resNew rs vs → t ∉ ts) → RessOk P F1 w rs y us (resQs X.β rs vs) := by
  have one : ∀ {r : RS} {v : PV} {u : Value} {y : r.I}, decRes E.C st r v = some y → RelP P X st.b w v u → (∀ t, t ∈ resOld st [r] [v] → t ∈ ts) → (∀ t, t ∈ resNew [r] [v] → t ∉ ts) → ResOk P F1 w r y u (resQ X.β r v) := by
    intro r v u y hd hr ho hn
    cases r with
    | d t =>
      simp only [decRes] at hd
      obtain ⟨h1, hd⟩ := cond_some hd
      have hvp := h.vp hs hr (fun t' ht => ho t' (by simp [resOld, ht])) fun t' _ B b cap hB hb => h.buf_lt hB hb
      obtain ⟨g, g1, g2⟩ := toVT_ok hC (fun _ h => h) hd hvp
      exact ⟨rfl, g, g1, RepV.noFn t h1 g2⟩
    | fresh e =>
      cases v with
      | agg ps => cases hd
      | tup vs => cases hd
      | s p =>
        cases p with
        | own tok =>
          simp only [decRes] at hd
          obtain ⟨h1, hd⟩ := cond_some hd
          cases hB : look st.b tok with
          | none => rw [hB] at hd; cases hd
          | some B =>
            obtain ⟨x, e2, xs⟩ := B
            rw [hB] at hd
            cases x with
            | false => cases hd
            | true =>
              simp only at hd
              obtain ⟨p, hp⟩ := castL_some hd
              subst p
              simp only at hp
              subst hp
              obtain ⟨B, hB', hsl⟩ := hr
              rw [hB] at hB'; cases hB'
              have hnt := hn tok (by simp [resNew])
              have hok := h.b tok _ hB
              unfold SlAt at hsl
              show BufVal P (fun _ => False) F1 w e2 xs u (X.β tok)
              cases hβ : X.β tok with
              | none => rw [hβ] at hsl; exact hsl
              | some q =>
                obtain ⟨b, cap⟩ := q
                rw [hβ] at hsl
                simp only [BufOk, hβ] at hok
                obtain ⟨k1, k2, k3, cs, el, k4, k5, k6⟩ := hok
                refine ⟨hsl, ?_, k3, cs, el, k4, k5, fun i hi => ?_⟩
                · rw [hF tok _ b cap hB hβ hnt]; simpa using k2
                · exact RepV.noFn e2 h1 (RepV.mono (fun _ h => h) hs.F (Keeps.refl _ _ _) _ _ _ _ (fun _ _ => rfl) (k6 i hi))
        | _ => cases hd
  intro rs
  induction rs with
  | nil =>
    intro vs us y hd hr ho hn
    cases vs with
    | nil =>
      cases us with
      | nil => exact ⟨rfl, rfl⟩
      | cons _ _ => exact hr.elim
    | cons _ _ => cases hd
  | cons r rs ih =>
    intro vs us y hd hr ho hn
    cases vs with
    | nil => cases rs <;> cases hd
    | cons v vs =>
      cases us with
      | nil => exact hr.elim
      | cons u us =>
        have ho1 : ∀ t, t ∈ resOld st [r] [v] → t ∈ ts := fun t ht => ho t (by
          cases r with
          | d x => simp [resOld] at ht ⊢; exact .inl ht
          | fresh e => simp [resOld] at ht)
        have ho2 : ∀ t, t ∈ resOld st rs vs → t ∈ ts := fun t ht => ho t (by
          cases r with
          | d x => simp [resOld, ht]
          | fresh e => simpa [resOld] using ht)
        have hn12 : (∀ t, t ∈ resNew [r] [v] → t ∉ ts) ∧ ∀ t, t ∈ resNew rs vs → t ∉ ts := by
          have key : (∀ t, t ∈ resNew [r] [v] → t ∈ resNew (r :: rs) (v :: vs)) ∧ ∀ t, t ∈ resNew rs vs → t ∈ resNew (r :: rs) (v :: vs) := by
            cases r with
            | d x => exact ⟨fun t ht => by simp [resNew] at ht, fun t ht => ht⟩
            | fresh e =>
              cases v with
              | agg ps => exact ⟨fun t ht => by simp [resNew] at ht, fun t ht => ht⟩
              | tup ps => exact ⟨fun t ht => by simp [resNew] at ht, fun t ht => ht⟩
              | s p =>
                cases p with
                | own tok => exact ⟨fun t ht => by simp [resNew] at ht; subst ht; simp [resNew], fun t ht => by simp [resNew, ht]⟩
                | _ => exact ⟨fun t ht => by simp [resNew] at ht, fun t ht => ht⟩
          exact ⟨fun t ht => hn t (key.1 t ht), fun t ht => hn t (key.2 t ht)⟩
        cases rs with
        | nil =>
          cases vs with
          | nil =>
            cases us with
            | nil => exact ⟨u, _, rfl, rfl, one (show decRes E.C st r v = some y from hd) hr.1 ho1 hn12.1⟩
            | cons _ _ => exact hr.2.elim
          | cons _ _ => cases hd
        | cons r' rs =>
          obtain ⟨h1, h2⟩ := decRess_cons hd
          exact ⟨u, us, _, _, rfl, rfl, one h1 hr.1 ho1 hn12.1, ih h2 hr.2 ho2 hn12.2⟩

theorem enters_of {f : FuncId} {fn : Func} {c : Code} (hf : P.funcs[f]? = some fn) (hb : fn.body = some c) (hn : (fn.name == "runtime.NumGoroutine") = false) : Enters P f := by
  intro args w
  have hn' : ¬ fn.name = "runtime.NumGoroutine" := by simpa using hn
  simp [callFunc, hf, hb, hn']

theorem init_rel {fn : Func} {as : List AS} {z : ASs.I as} {F : Nat → Nat} {us : List Value} {qs : List (Option (Nat × Nat))} (hF : ∀ b, w.heap.size ≤ b → F b = 0) (hnd : (blk qs).Nodup)
    (hargs : ArgsOk P (fun b => b < w.heap.size ∧ b ∉ blk qs) F w as z us qs) (hnt : E.nt ≤ fn.ntmps) (hle : as.length ≤ E.nt) (hlo : E.lo ≤ as.length) :
    Rel P ⟨w, F, blk qs, E.nt, E.lo, fun n => us.getD n Go.undef⟩ ⟨fun b => b < w.heap.size ∧ b ∉ blk qs, F, fun _ => 0, fun t => (qs[t]?).join⟩ (initSt as z) { tmps := us.toArray ++ Array.replicate (fn.ntmps - us.toArray.size) Go.undef, defers := [] } w := by
  have hin := initT_ok (P := P) (X := ⟨fun b => b < w.heap.size ∧ b ∉ blk qs, F, fun _ => 0, fun t => (qs[t]?).join⟩) (w := w) (bs := (initT 0 as z).2) (i := 0) hargs (fun j q hq => by simp [hq]) (fun b hb hO => hO.2 hb) (fun t B h => h)
  obtain ⟨i1, i2, i3⟩ := hin
  have hget : ∀ n u, us[n]? = some u → (us.toArray ++ Array.replicate (fn.ntmps - us.toArray.size) Go.undef).getD n Go.undef = u := by
    intro n u e2
    have hlt : n < us.length := (List.getElem?_eq_some_iff.1 e2).1
    rw [Array.getD_eq_getD_getElem?, Array.getElem?_append_left (by simpa using hlt)]
    simp [e2]
  refine { O := rfl, evo := Evo.refl _ _ _ hF, nt := ⟨?_, fun n hn => ?_⟩, defers := rfl, t := fun n pv hn => ?_, r := (fun r c hr => by cases hr), b := fun t B hB => ?_, rr := (fun r r' c c' hr => by cases hr), rb := (fun r c t B b cap hr => by cases hr), bb := fun t t' B B' b cap b' cap' h1 h2 h3 h4 hne => ?_ }
  · simp; omega
  · have hn : n < E.lo := hn
    have hlt : n < us.length := by omega
    show _ = us.getD n Go.undef
    rw [hget n us[n] (List.getElem?_eq_getElem hlt)]
    simp [hlt]
  · obtain ⟨j, u, e1, e2, e3⟩ := i2 n pv hn
    rw [Nat.zero_add] at e1
    subst e1
    show RelP P _ _ w pv _
    rw [hget n u e2]; exact e3
  · obtain ⟨j, _, _, e3⟩ := i3 t B hB
    exact e3
  · obtain ⟨j, e1, e2, _⟩ := i3 t B h1
    obtain ⟨j', e1', e2', _⟩ := i3 t' B' h2
    rw [h3] at e2
    rw [h4] at e2'
    exact blk_apart hnd e2 e2' (by omega)

/-- A function that the machine has run keeps its contract. -/
theorem arun_sound {f : FuncId} {fn : Func} {c : Code} (hf : P.funcs[f]? = some fn) (hb : fn.body = some c) (hname : (fn.name == "runtime.NumGoroutine") = false) (hm : P.follows .mixedOrders = true) (hnt : E.nt ≤ fn.ntmps)
    (hty : tysB P E.ty = true) (hC : SoundTab P E.C) (heq : ∀ T ti cs, memb E.eqs T = true → E.tyOf T = some ti → ti.vt = .ag cs → EqOk P T cs) (con : Con) (hlo : E.lo ≤ con.as.length) (hrun : ∀ z y, con.f z = some y → arun E fn con.as con.rs z = some y) : SoundCon P f con := by
  refine ⟨enters_of hf hb hname, fun z y hy F w us qs hF hnd hargs => ?_⟩
  have hr := hrun z y hy
  unfold arun at hr
  rw [hb] at hr
  simp only at hr
  obtain ⟨hle, hr⟩ := cond_some hr
  have hle := Nat.le_of_ble_eq_true hle
  have hrel := init_rel (P := P) (E := E) (fn := fn) hF hnd hargs hnt hle hlo
  have hE : EnvOk P E ⟨w, F, blk qs, E.nt, E.lo, fun n => us.getD n Go.undef⟩ := ⟨hty, hC, rfl, rfl, heq⟩
  refine calls_of_wp hf hb (aexec_ok hE hm _ c (Nat.lt_succ_self _) hrel hr fun e X' st' a' w' h' hfin => ?_)
  have fin : (match resPVs E st' fn.results.toList with
      | some vs => cond (apartB (resOld st' con.rs vs) (resNew con.rs vs)) (decRess E.C st' con.rs vs) none
      | none => none) = some y → a'.defers = [] ∧ ∃ v, (results fn a'.tmps).run P w' = .ok v w' ∧ ∃ vs F' ps, Ending.returned v = .returned (packV vs) ∧ Evo (blk qs) F F' w w' ∧ RessOk P F' w' con.rs y vs ps ∧ (blk ps).Nodup ∧ ∀ b, b ∈ blk ps → w.heap.size ≤ b ∨ b ∈ blk qs := by
    intro hfin
    refine ⟨h'.defers, ?_⟩
    split at hfin
    · rename_i vs e1
      obtain ⟨hap, hfin⟩ := cond_some hfin
      obtain ⟨n1, n2⟩ := apartB_ok hap
      obtain ⟨us', k1, k2⟩ := resPVs_ok hE h' (fun | .tmp t => pure (a'.tmps.getD t Go.undef) | .cell c t => do loadVar t (← asAddr (a'.tmps.getD c Go.undef))) (fun _ => rfl) (fun _ _ => rfl) e1
      obtain ⟨F1, f1, f2, f3, f4⟩ := Rel.share (resOld st' con.rs vs) h'
      have hs : Shown X' st' (fun b => b < w'.heap.size) F1 (resOld st' con.rs vs) := ⟨h'.oldO, f1, fun r c hr => h'.row_lt hr, fun t ht B b cap => f3 t B b cap ht⟩
      have hF1 : ∀ t B b cap, look st'.b t = some B → X'.β t = some (b, cap) → t ∉ resOld st' con.rs vs → F1 b = X'.F b := by
        intro t B b cap hB hb hn
        refine f2 b fun t' B' cap' ht' hB' hb' => ?_
        have hne : t' ≠ t := fun e => hn (e ▸ ht')
        exact h'.bb t' t B' B b cap' b cap hB' hB hb' hb hne rfl
      have hres := decRess_ok hE.C h' hs hF1 hfin k2 (fun t ht => ht) n2
      refine ⟨packV us', ?_, us', F1, resQs X'.β con.rs vs, rfl, f4.evo, hres, resQs_nodup n1 fun t t' b cap cap' h1 h2 hb hb' => ?_, fun b hb => ?_⟩
      · unfold results
        rw [Array.mapM_eq_mapM_toList]
        have k3 : (fn.results.toList.mapM (m := Sem) fun | .tmp t => pure (a'.tmps.getD t Go.undef) | .cell c t => do loadVar t (← asAddr (a'.tmps.getD c Go.undef))).run P w' = .ok us' w' := k1
        rw [Sem.run_bind, Sem.run_map]
        erw [k3]
        simp only [Result.andThen_ok, Sem.run_pure]
        congr 1
        match us' with
        | [] => rfl
        | [v] => rfl
        | v :: v' :: vs =>
          rw [dif_neg (by simp)]
          rfl
      · obtain ⟨B, hB, _⟩ := decRess_new hfin t h1
        obtain ⟨B', hB', _⟩ := decRess_new hfin t' h2
        rcases Nat.decEq t t' with hne | e
        · exact absurd rfl (h'.bb t t' B B' b cap b cap' hB hB' hb hb' hne)
        · exact e
      · obtain ⟨cap, hm⟩ := mem_blk.1 hb
        obtain ⟨tok, h1, h2⟩ := resQs_mem hm
        obtain ⟨B, hB, _⟩ := decRess_new hfin tok h1
        have hok := h'.b tok B hB
        simp only [BufOk, h2] at hok
        have hO := hok.1
        rw [h'.O] at hO
        rcases Nat.lt_or_ge b w.heap.size with h3 | h3
        · exact .inr (Classical.byContradiction fun h4 => hO ⟨h3, h4⟩)
        · exact .inl h3
    · cases hfin
  cases e with
  | normal => exact fin hfin
  | ret => exact fin hfin
  | exit id => cases hfin
  | goto l => cases hfin

/-- What a function that writes its first argument's elements, and hands back nothing, leaves of them. -/
def ioEnd (e : VT) : AX → St → Option (List e.I) := fun ex st => match ex with
  | .normal | .ret => match st.tmp 0, look st.b 0 with
    | .s (.own 0), some ⟨true, e', xs⟩ => castL e' e xs
    | _, _ => none
  | _ => none
def arunIo (E : Env) (fn : Func) (e : VT) (as : List AS) (z : ASs.I (.mv e :: as)) : Option (List e.I) := match fn.body with
  | some c => cond (Nat.ble (as.length + 1) E.nt && e.noFn && Nat.ble 1 E.lo && fn.results.toList.isEmpty) (aexec E c (initSt (.mv e :: as) z) (ioEnd e)) none
  | none => none
def IoCon (P : Program) (f : FuncId) (e : VT) (as : List AS) (g : ASs.I (.mv e :: as) → Option (List e.I)) : Prop :=
  Enters P f ∧ ∀ z y, g z = some y → ∀ (F : Nat → Nat) (w : World) (u : Value) (us : List Value) (q : Option (Nat × Nat)) (qs : List (Option (Nat × Nat))),
    (∀ b, w.heap.size ≤ b → F b = 0) → (blk (q :: qs)).Nodup → ArgsOk P (fun b => b < w.heap.size ∧ b ∉ blk (q :: qs)) F w (.mv e :: as) z (u :: us) (q :: qs) →
      Calls P f (u :: us).toArray w fun ex w' => ex = .returned (.tuple #[]) ∧ ∃ F' q', Evo (blk (q :: qs)) F F' w w' ∧ BufVal P (fun _ => False) F' w' e y u q' ∧ ∀ b cap, q' = some (b, cap) → b ∈ blk (q :: qs)
theorem arun_io {f : FuncId} {fn : Func} {c : Code} (hf : P.funcs[f]? = some fn) (hb : fn.body = some c) (hname : (fn.name == "runtime.NumGoroutine") = false) (hm : P.follows .mixedOrders = true) (hnt : E.nt ≤ fn.ntmps)
    (hty : tysB P E.ty = true) (hC : SoundTab P E.C) (heq : ∀ T ti cs, memb E.eqs T = true → E.tyOf T = some ti → ti.vt = .ag cs → EqOk P T cs) (e : VT) (as : List AS) (hlo : E.lo ≤ as.length + 1) (g : ASs.I (.mv e :: as) → Option (List e.I)) (hrun : ∀ z y, g z = some y → arunIo E fn e as z = some y) : IoCon P f e as g := by
  refine ⟨enters_of hf hb hname, fun z y hy F w u us q qs hF hnd hargs => ?_⟩
  have hr := hrun z y hy
  unfold arunIo at hr
  rw [hb] at hr
  simp only at hr
  obtain ⟨hcd, hr⟩ := cond_some hr
  simp only [Bool.and_eq_true] at hcd
  obtain ⟨⟨⟨hle, hnf⟩, hlo1⟩, hres⟩ := hcd
  have hle := Nat.le_of_ble_eq_true hle
  have hlo1 := Nat.le_of_ble_eq_true hlo1
  have hres : fn.results = #[] := by
    have := List.isEmpty_iff.1 hres
    exact Array.toList_eq_nil_iff.1 this
  have hrel := init_rel (P := P) (E := E) (fn := fn) hF hnd hargs hnt (by simpa using hle) (by simpa using hlo)
  have hE : EnvOk P E ⟨w, F, blk (q :: qs), E.nt, E.lo, fun n => (u :: us).getD n Go.undef⟩ := ⟨hty, hC, rfl, rfl, heq⟩
  refine calls_of_wp hf hb (aexec_ok hE hm _ c (Nat.lt_succ_self _) hrel hr fun ex X' st' a' w' h' hfin => ?_)
  have fin : (match st'.tmp 0, look st'.b 0 with
    | .s (.own 0), some ⟨true, e', xs⟩ => castL e' e xs
    | _, _ => none) = some y → a'.defers = [] ∧ ∃ v, (results fn a'.tmps).run P w' = .ok v w' ∧ Ending.returned v = .returned (.tuple #[]) ∧ ∃ F' q', Evo (blk (q :: qs)) F F' w w' ∧ BufVal P (fun _ => False) F' w' e y u q' ∧ ∀ b cap, q' = some (b, cap) → b ∈ blk (q :: qs) := by
    intro hfin
    refine ⟨h'.defers, .tuple #[], results_none hres _ _ _, rfl, ?_⟩
    split at hfin
    · rename_i e' xs ht hB
      obtain ⟨p, hp⟩ := castL_some hfin
      subst p
      simp only at hp
      subst hp
      have hv := tmp_ok h' 0
      rw [ht] at hv
      obtain ⟨B, hB', hsl⟩ := hv
      rw [hB] at hB'; cases hB'
      have harg : a'.tmps.getD 0 Go.undef = u := by
        have := h'.nt.arg 0 (by show 0 < E.lo; omega)
        rw [this]; rfl
      rw [harg] at hsl
      have hok := h'.b 0 _ hB
      have h0 : BufVal P (fun b => b < w.heap.size ∧ b ∉ blk (q :: qs)) F w e' z.1 u q := by
        obtain ⟨u', us', q0, qs', e1, e2, e3, _⟩ := hargs
        cases e1; cases e2
        exact e3
      unfold SlAt at hsl
      have none_case : xs.length = 0 → (∃ a, u = .slice a 0 0) → ∃ F' q', Evo (blk (q :: qs)) F F' w w' ∧ BufVal P (fun _ => False) F' w' e' xs u q' ∧ ∀ b cap, q' = some (b, cap) → b ∈ blk (q :: qs) :=
        fun h1 h2 => ⟨X'.F, Option.none, h'.evo, ⟨h1, h2⟩, fun b cap e => by cases e⟩
      cases hβ : X'.β 0 with
      | none =>
        rw [hβ] at hsl
        exact none_case hsl.1 hsl.2
      | some bc =>
        obtain ⟨b, cap⟩ := bc
        rw [hβ] at hsl
        have hsl : u = .slice (some ⟨b, 0, Option.none⟩) xs.length cap := hsl
        simp only [BufOk, hβ] at hok
        obtain ⟨k1, k2, k3, cs, el, k4, k5, k6⟩ := hok
        cases q with
        | none =>
          obtain ⟨_, a0, hu⟩ := h0
          rw [hu] at hsl
          injection hsl with e1 e2 e3
          exact none_case e2.symm ⟨_, hu⟩
        | some q0 =>
          obtain ⟨b0, cap0⟩ := q0
          obtain ⟨hu, _⟩ := h0
          have : b0 = b := by rw [hu] at hsl; injection hsl with e1; injection e1 with e1; injection e1
          subst this
          refine ⟨X'.F, some (b0, cap), h'.evo, ⟨hsl, by simpa using k2, k3, cs, el, k4, k5, fun i hi => RepV.noFn e' hnf (k6 i hi)⟩, fun b' cap' e => ?_⟩
          cases e; simp [blk]
    · cases hfin
  cases ex with
  | normal => exact fin hfin
  | ret => exact fin hfin
  | exit id => cases hfin
  | goto l => cases hfin
end Go.PgAM
