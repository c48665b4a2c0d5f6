/-
  Part 3 of the texts that the claim leans on: an abstract machine over the model's code, its soundness, and plain laws.
-/
import Derived.StillTail
import Derived.LoopN
import Derived.ScopeJumps
import Derived.ProofKit
import Derived.Deep.Slices
import Derived.OpenShut
import Derived.Below
import Derived.ChangeSame
import Derived.Laws.StructEq
import Derived.ChangeKeysEq
import Derived.DeepKeys
import Derived.Test.YtbljidhiecbcfaaMS2
/-
  Which operations are surely done ahead of which.
-/
namespace Go.PgAM
open Go Go.RowKit
set_option linter.unusedVariables false
set_option linter.unusedSimpArgs false

theorem nth_app {α : Type} (l m : List α) (i : Nat) (h : i < l.length) : nth (l ++ m) i = nth l i := by
  rw [nth_eq, nth_eq, List.getElem?_append_left h]
theorem masks_app : ∀ (l : List Oper) (ms : List Nat), ∃ r, masks ms l = ms ++ r ∧ r.length = l.length
  | [], ms => ⟨[], by simp [masks], rfl⟩
  | o :: l, ms => by
    obtain ⟨r, h1, h2⟩ := masks_app l (ms ++ [maskOf ms o.after.toList])
    exact ⟨maskOf ms o.after.toList :: r, by simp only [masks]; rw [h1]; simp, by simp [h2]⟩
theorem masks_get : ∀ (l : List Oper) (ms : List Nat) (q : Nat) (o : Oper), l[q]? = some o → nth (masks ms l) (ms.length + q) = some (maskOf ((masks ms l).take (ms.length + q)) o.after.toList)
  | [], ms, q, o, h => by simp at h
  | o' :: l, ms, 0, o, h => by
    simp at h; subst h
    simp only [masks, Nat.add_zero]
    obtain ⟨r, h1, _⟩ := masks_app l (ms ++ [maskOf ms o'.after.toList])
    rw [h1, nth_eq]
    simp
  | o' :: l, ms, q + 1, o, h => by
    simp only [masks]
    have := masks_get l (ms ++ [maskOf ms o'.after.toList]) q o (by simpa using h)
    simpa [Nat.add_assoc, Nat.add_comm 1] using this
theorem mask_or (a b i : Nat) : Nat.testBit (a ||| b) i = (Nat.testBit a i || Nat.testBit b i) := Nat.testBit_or a b i
theorem maskOf_bit (ms : List Nat) (b : Nat) : ∀ (es : List Edge), Nat.testBit (maskOf ms es) b = true ↔ ∃ e ∈ es, bindsAny e = true ∧ (e.on = b ∨ Nat.testBit ((nth ms e.on).getD 0) b = true)
  | [] => by simp [maskOf]
  | e :: es => by
    simp only [maskOf]
    have ih := maskOf_bit ms b es
    cases hb : bindsAny e with
    | true =>
      simp only [cond_true, mask_or, Bool.or_eq_true, ih, Nat.testBit_two_pow, decide_eq_true_eq, List.mem_cons]
      constructor
      · rintro ((⟨e', h1, h2⟩ | h) | h)
        · exact ⟨e', .inr h1, h2⟩
        · exact ⟨e, .inl rfl, hb, .inl h⟩
        · exact ⟨e, .inl rfl, hb, .inr h⟩
      · rintro ⟨e', rfl | h1, h2, h3⟩
        · rcases h3 with h3 | h3
          · exact .inl (.inr h3)
          · exact .inr h3
        · exact .inl (.inl ⟨e', h1, h2, h3⟩)
    | false =>
      simp only [cond_false, ih, List.mem_cons]
      constructor
      · rintro ⟨e', h1, h2⟩; exact ⟨e', .inr h1, h2⟩
      · rintro ⟨e', rfl | h1, h2⟩
        · rw [hb] at h2; exact absurd h2.1 (by simp)
        · exact ⟨e', h1, h2⟩
theorem msLow_ok : ∀ {l : List Nat} {i : Nat}, msLow i l = true → ∀ q m, l[q]? = some m → m < 2 ^ (i + q)
  | [], i, _, q, m, h => by simp at h
  | m' :: l, i, h, q, m, hq => by
    simp only [msLow, Bool.and_eq_true] at h
    cases q with
    | zero => simp at hq; subst hq; exact Nat.le_of_ble_eq_true h.1
    | succ q =>
      have := msLow_ok h.2 q m (by simpa using hq)
      rwa [show i + 1 + q = i + (q + 1) by omega] at this
def mkm (ms : List Nat) (i : Nat) : Nat := (nth ms i).getD 0
theorem bit_lt {m i b : Nat} (h : m < 2 ^ i) (hb : Nat.testBit m b = true) : b < i := by
  rcases Nat.lt_or_ge b i with h' | h'
  · exact h'
  · have : m < 2 ^ b := Nat.lt_of_lt_of_le h (Nat.pow_le_pow_right (by omega) h')
    rw [Nat.testBit_lt_two_pow this] at hb; cases hb

section
variable {all : List Oper}
theorem mk_of {i : Nat} {o : Oper} (h : all[i]? = some o) : mkm (masks [] all) i = maskOf ((masks [] all).take i) o.after.toList := by
  have := masks_get all [] i o h
  simp only [List.length_nil, Nat.zero_add] at this
  unfold mkm; rw [this]; rfl
theorem mk_none {i : Nat} (h : all.length ≤ i) : mkm (masks [] all) i = 0 := by
  obtain ⟨r, h1, h2⟩ := masks_app all []
  unfold mkm
  rw [h1, nth_eq]
  simp only [List.nil_append]
  rw [List.getElem?_eq_none (by omega)]; rfl
theorem mk_low (hl : msLow 0 (masks [] all) = true) (i : Nat) : ∀ b, Nat.testBit (mkm (masks [] all) i) b = true → b < i := by
  intro b hb
  unfold mkm at hb
  cases e : nth (masks [] all) i with
  | none => rw [e] at hb; simp at hb
  | some m =>
    rw [e] at hb
    rw [nth_eq] at e
    have := msLow_ok hl i m e
    exact bit_lt (by simpa using this) hb
theorem mk_bit (hl : msLow 0 (masks [] all) = true) {i b : Nat} {o : Oper} (h : all[i]? = some o) : Nat.testBit (mkm (masks [] all) i) b = true ↔ ∃ e ∈ o.after, bindsAny e = true ∧ (e.on = b ∨ Nat.testBit (mkm (masks [] all) e.on) b = true) := by
  rw [mk_of h, maskOf_bit]
  have hlow := mk_low hl i
  have key : ∀ e ∈ o.after.toList, bindsAny e = true → e.on < i := by
    intro e he hb
    refine hlow e.on ?_
    rw [mk_of h, maskOf_bit]
    exact ⟨e, he, hb, .inl rfl⟩
  have eqn : ∀ e ∈ o.after.toList, bindsAny e = true → nth ((masks [] all).take i) e.on = nth (masks [] all) e.on := by
    intro e he hb
    rw [nth_eq, nth_eq, List.getElem?_take, if_pos (key e he hb)]
  constructor
  · rintro ⟨e, h1, h2, h3⟩
    refine ⟨e, by simpa using h1, h2, h3.imp id fun h3 => ?_⟩
    rw [eqn e h1 h2] at h3; exact h3
  · rintro ⟨e, h1, h2, h3⟩
    have h1 : e ∈ o.after.toList := by simpa using h1
    refine ⟨e, h1, h2, h3.imp id fun h3 => ?_⟩
    rw [eqn e h1 h2]; exact h3
theorem mk_trans (hl : msLow 0 (masks [] all) = true) : ∀ (n i j b : Nat), i < n → Nat.testBit (mkm (masks [] all) i) j = true → Nat.testBit (mkm (masks [] all) j) b = true → Nat.testBit (mkm (masks [] all) i) b = true
  | 0, i, j, b, h, _, _ => by omega
  | n + 1, i, j, b, h, h1, h2 => by
    cases e : all[i]? with
    | none =>
      rw [mk_none (by
        rcases Nat.lt_or_ge i all.length with h' | h'
        · rw [List.getElem?_eq_getElem h'] at e; cases e
        · exact h')] at h1
      simp at h1
    | some o =>
      obtain ⟨e', q1, q2, q3⟩ := (mk_bit hl e).1 h1
      refine (mk_bit hl e).2 ⟨e', q1, q2, .inr ?_⟩
      rcases q3 with q3 | q3
      · rw [q3]; exact h2
      · have hlt : e'.on < i := mk_low hl i _ ((mk_bit hl e).2 ⟨e', q1, q2, .inl rfl⟩)
        exact mk_trans hl n e'.on j b (by omega) q3 h2
theorem tailAt_le (ms : List Nat) : ∀ n, tailAt ms n ≤ n
  | 0 => Nat.le_refl _
  | n + 1 => by
    simp only [tailAt]
    cases Nat.beq ((nth ms n).getD 0) (2 ^ n - 1) with
    | true => exact Nat.le_succ_of_le (tailAt_le ms n)
    | false => exact Nat.le_refl _
theorem tailAt_ok (ms : List Nat) : ∀ (n i : Nat), tailAt ms n ≤ i → i < n → mkm ms i = 2 ^ i - 1
  | 0, i, _, h => by omega
  | n + 1, i, h1, h2 => by
    simp only [tailAt] at h1
    cases e : Nat.beq ((nth ms n).getD 0) (2 ^ n - 1) with
    | true =>
      rw [e] at h1
      rcases Nat.lt_or_ge i n with h3 | h3
      · exact tailAt_ok ms n i h1 h3
      · have : i = n := by omega
        subst this
        exact Nat.eq_of_beq_eq_true e
    | false => rw [e] at h1; simp only [cond_false] at h1; omega
theorem lastPick_le : ∀ (l : List Oper) (r i : Nat), lastPick r i l ≤ max r (i + l.length)
  | [], r, i => by simp [lastPick]; omega
  | o :: l, r, i => by
    simp only [lastPick]
    split
    · have := lastPick_le l (i + 1) (i + 1)
      simp only [List.length_cons]; omega
    · have := lastPick_le l r (i + 1)
      simp only [List.length_cons]; omega
theorem guardsIn_ok {ms : List Nat} : ∀ {l : List Oper} {i : Nat}, guardsIn ms i l = true → ∀ q o j v, l[q]? = some o → o.guard = some (j, v) → Nat.testBit (mkm ms (i + q)) j = true
  | [], i, _, q, o, j, v, h, _ => by simp at h
  | o' :: l, i, h, q, o, j, v, hq, hg => by
    simp only [guardsIn, Bool.and_eq_true] at h
    cases q with
    | zero =>
      simp at hq; subst hq
      have := h.1
      rw [hg] at this
      exact this
    | succ q =>
      have := guardsIn_ok h.2 q o j v (by simpa using hq) hg
      rwa [show i + 1 + q = i + (q + 1) by omega] at this
theorem noDup_ok : ∀ {l : List Nat}, noDup l = true → l.Nodup
  | [], _ => List.nodup_nil
  | d :: l, h => by
    simp only [noDup] at h
    cases e : memb l d with
    | true => rw [e] at h; cases h
    | false => rw [e] at h; exact List.nodup_cons.2 ⟨memb_false e, noDup_ok h⟩
theorem mem_dstsOf : ∀ {l : List Oper} {q : Nat} {o : Oper} {d : Nat}, l[q]? = some o → o.dst = some d → d ∈ dstsOf l
  | [], q, o, d, h, _ => by simp at h
  | o' :: l, q, o, d, h, hd => by
    simp only [dstsOf, List.mem_append]
    cases q with
    | zero => simp at h; subst h; rw [hd]; exact .inl (by simp)
    | succ q => exact .inr (mem_dstsOf (by simpa using h) hd)
theorem dstsOf_inj : ∀ {l : List Oper}, (dstsOf l).Nodup → ∀ {q q' : Nat} {o o' : Oper} {d : Nat}, l[q]? = some o → l[q']? = some o' → o.dst = some d → o'.dst = some d → q = q'
  | [], _, q, q', o, o', d, h, _, _, _ => by simp at h
  | p :: l, hn, q, q', o, o', d, h1, h2, h3, h4 => by
    simp only [dstsOf] at hn
    obtain ⟨n1, n2, n3⟩ := List.nodup_append.1 hn
    have clash : ∀ {q : Nat} {o : Oper}, l[q]? = some o → o.dst = some d → p.dst = some d → False := fun h hd hp =>
      n3 d (by rw [hp]; simp) d (mem_dstsOf h hd) rfl
    cases q with
    | zero =>
      simp at h1; subst h1
      cases q' with
      | zero => rfl
      | succ q' => exact (clash (by simpa using h2) h4 h3).elim
    | succ q =>
      cases q' with
      | zero => simp at h2; subst h2; exact (clash (by simpa using h1) h3 h4).elim
      | succ q' =>
        have h1' : l[q]? = some o := by simpa using h1
        have h2' : l[q']? = some o' := by simpa using h2
        rw [dstsOf_inj n2 h1' h2' h3 h4]
theorem mem_dstIx : ∀ {l : List Oper} {i q : Nat} {o : Oper} {d : Nat}, l[q]? = some o → o.dst = some d → (i + q, d) ∈ dstIx i l
  | [], i, q, o, d, h, _ => by simp at h
  | o' :: l, i, q, o, d, h, hd => by
    simp only [dstIx]
    cases q with
    | zero => simp at h; subst h; rw [hd]; simp
    | succ q =>
      have := mem_dstIx (i := i + 1) (q := q) (l := l) (by simpa using h) hd
      rw [show i + 1 + q = i + (q + 1) by omega] at this
      cases o'.dst with
      | none => exact this
      | some d' => exact List.mem_cons_of_mem _ this
theorem allocAt_ok {d : Nat} : ∀ {l : List Oper} {i a : Nat}, allocAt d i l = some a → ∃ q o, a = i + q ∧ l[q]? = some o ∧ o.dst = some d
  | [], i, a, h => by cases h
  | o :: l, i, a, h => by
    have rest : allocAt d (i + 1) l = some a → ∃ q o', a = i + q ∧ (o :: l)[q]? = some o' ∧ o'.dst = some d := fun h => by
      obtain ⟨q, o', h1, h2, h3⟩ := allocAt_ok h
      exact ⟨q + 1, o', by omega, by simpa using h2, h3⟩
    simp only [allocAt] at h
    split at h
    · rename_i d' ho hd
      cases e : Nat.beq d' d with
      | true =>
        rw [e] at h
        have e := Nat.eq_of_beq_eq_true e
        subst e
        cases h
        exact ⟨0, o, rfl, rfl, hd⟩
      | false => rw [e] at h; exact rest h
    · exact rest h
theorem cond_true' {c x : Bool} (h : cond c x false = true) : c = true ∧ x = true := by cases c <;> simp_all
theorem storesOk_ok {ops : List Oper} {ms : List Nat} : ∀ {l : List Oper} {i : Nat}, storesOk ops ms i l = true → ∀ q o T t v, l[q]? = some o → o.op = .store T (.tmp t) v → storeOk ops ms (i + q) t = true ∧ o.guard = none
  | [], i, _, q, o, T, t, v, h, _ => by simp at h
  | o' :: l, i, h, q, o, T, t, v, hq, ho => by
    simp only [storesOk] at h
    cases q with
    | zero =>
      simp at hq; subst hq
      rw [ho] at h
      simp only at h
      cases e : storeOk ops ms i t && o'.guard.isNone with
      | false => rw [e] at h; cases h
      | true =>
        simp only [Bool.and_eq_true] at e
        exact ⟨e.1, Option.isNone_iff_eq_none.1 e.2⟩
    | succ q =>
      have ht : storesOk ops ms (i + 1) l = true := by
        split at h
        · obtain ⟨_, h⟩ := cond_true' h; exact h
        · exact h
      have := storesOk_ok ht q o T t v (by simpa using hq) ho
      rwa [show i + 1 + q = i + (q + 1) by omega] at this
theorem storeOk_ok {ops : List Oper} {ms : List Nat} {j t : Nat} (h : storeOk ops ms j t = true) : ∃ a, allocAt t 0 ops = some a ∧ Nat.testBit (mkm ms j) a = true ∧ ∀ i, i < ops.length → Nat.testBit (mkm ms i) a = true → i = j ∨ Nat.testBit (mkm ms i) j = true ∨ Nat.testBit (mkm ms j) i = true := by
  unfold storeOk at h
  split at h
  · cases h
  · rename_i a e
    simp only [Bool.and_eq_true] at h
    refine ⟨a, e, h.1, fun i hi hb => ?_⟩
    have := List.all_eq_true.1 h.2 i (List.mem_range.2 hi)
    simp only [Bool.or_eq_true, Bool.not_eq_true'] at this
    rcases this with ((h1 | h1) | h1) | h1
    · unfold mkm at hb; rw [hb] at h1; cases h1
    · exact .inl (Nat.eq_of_beq_eq_true h1)
    · exact .inr (.inl h1)
    · exact .inr (.inr h1)
end
end Go.PgAM

/-
  A region's operations in whatever order they come: what the state is.
-/
namespace Go.PgAM
open Go Go.RowKit
set_option linter.unusedVariables false
set_option linter.unusedSimpArgs false

def sig : List (Nat × Del) → St → St
  | [], st0 => st0
  | p :: L, st0 => p.2.put (sig L st0)
/-- An order in which operations may have come, the last one first. -/
def Chain (ms : List Nat) : List (Nat × Del) → Prop
  | [] => True
  | (j, D) :: L => Chain ms L ∧ (∀ D', (j, D') ∉ L) ∧ ∀ b, Nat.testBit (mkm ms j) b = true → ∃ D', (b, D') ∈ L

section
variable {E : Env} {all : List Oper} {ms : List Nat} {dl : List (Nat × Nat)} {st0 : St} {T ds L : List (Nat × Del)} {m : Nat}

theorem chain_closed : ∀ {L : List (Nat × Del)}, Chain ms L → ∀ {j : Nat} {D : Del} {b : Nat}, (j, D) ∈ L → Nat.testBit (mkm ms j) b = true → ∃ D', (b, D') ∈ L
  | [], _, j, D, b, h, _ => by simp at h
  | (j0, D0) :: L, hc, j, D, b, h, hb => by
    rcases List.mem_cons.1 h with e | h
    · cases e
      obtain ⟨D', h'⟩ := hc.2.2 b hb
      exact ⟨D', by simp [h']⟩
    · obtain ⟨D', h'⟩ := chain_closed hc.1 h hb
      exact ⟨D', by simp [h']⟩
theorem sig_t {j n : Nat} {D : Del} : ∀ {L : List (Nat × Del)}, (j, D) ∈ L → D.d = some n → (∀ j' D', (j', D') ∈ L → D'.d = some n → D' = D) → look (sig L st0).t n = some D.v
  | [], h, _, _ => by simp at h
  | (j0, D0) :: L, h, hd, hu => by
    simp only [sig, put_t]
    by_cases e : D0.d = some n
    · rw [if_pos e, hu j0 D0 (by simp) e]
    · rw [if_neg e]
      rcases List.mem_cons.1 h with e2 | h
      · cases e2; exact absurd hd e
      · exact sig_t h hd fun j' D' h' => hu j' D' (by simp [h'])
theorem sig_t0 {n : Nat} : ∀ {L : List (Nat × Del)}, (∀ j D, (j, D) ∈ L → D.d ≠ some n) → look (sig L st0).t n = look st0.t n
  | [], _ => rfl
  | (j0, D0) :: L, h => by
    simp only [sig, put_t]
    rw [if_neg (h j0 D0 (by simp))]
    exact sig_t0 fun j D hj => h j D (by simp [hj])
theorem sig_t' {n : Nat} {pv : PV} : ∀ {L : List (Nat × Del)}, look (sig L st0).t n = some pv → (∃ j D, (j, D) ∈ L ∧ D.d = some n ∧ D.v = pv) ∨ look st0.t n = some pv
  | [], h => .inr h
  | (j0, D0) :: L, h => by
    simp only [sig, put_t] at h
    by_cases e : D0.d = some n
    · rw [if_pos e] at h; cases h
      exact .inl ⟨j0, D0, by simp, e, rfl⟩
    · rw [if_neg e] at h
      exact (sig_t' h).imp (fun ⟨j, D, h1, h2⟩ => ⟨j, D, by simp [h1], h2⟩) id
theorem sig_r' {r : Nat} {c : List PC} : ∀ {L : List (Nat × Del)}, (sig L st0).row r = some c → (∃ j D, (j, D) ∈ L ∧ D.row = some (r, c)) ∨ st0.row r = some c
  | [], h => .inr h
  | (j0, D0) :: L, h => by
    simp only [sig] at h
    rw [put_row] at h
    have tl : (sig L st0).row r = some c → (∃ j D, (j, D) ∈ (j0, D0) :: L ∧ D.row = some (r, c)) ∨ st0.row r = some c := fun h =>
      (sig_r' h).imp (fun ⟨j, D, h1, h2⟩ => ⟨j, D, by simp [h1], h2⟩) id
    split at h
    · rename_i r' cs e
      by_cases e2 : r' = r
      · subst e2; rw [if_pos rfl] at h; cases h
        exact .inl ⟨j0, D0, by simp, e⟩
      · rw [if_neg e2] at h; exact tl h
    · exact tl h
theorem sig_r0 {r : Nat} : ∀ {L : List (Nat × Del)}, (∀ j D c, (j, D) ∈ L → D.row ≠ some (r, c)) → (sig L st0).row r = st0.row r
  | [], _ => rfl
  | (j0, D0) :: L, h => by
    simp only [sig]
    rw [put_row]
    have ih : (sig L st0).row r = st0.row r := sig_r0 fun j D c hj => h j D c (by simp [hj])
    split
    · rename_i r' cs e
      by_cases e2 : r' = r
      · subst e2; exact absurd e (h j0 D0 cs (by simp))
      · rw [if_neg e2]; exact ih
    · exact ih
theorem sig_r {j r : Nat} {D : Del} {c : List PC} : ∀ {L : List (Nat × Del)}, Chain ms L → (j, D) ∈ L → D.row = some (r, c) → (∀ j' D' c', (j', D') ∈ L → D'.row = some (r, c') → D' = D ∨ (j' ≠ j ∧ Nat.testBit (mkm ms j) j' = true)) → (sig L st0).row r = some c
  | [], _, h, _, _ => by simp at h
  | (j0, D0) :: L, hc, h, hd, hu => by
    simp only [sig]
    rw [put_row]
    have tl : (∀ c', D0.row ≠ some (r, c')) → (sig L st0).row r = some c := by
      intro hne
      rcases List.mem_cons.1 h with e2 | h
      · cases e2; exact absurd hd (hne c)
      · exact sig_r hc.1 h hd fun j' D' c' h' => hu j' D' c' (by simp [h'])
    split
    · rename_i r' cs e
      by_cases e2 : r' = r
      · subst e2
        rw [if_pos rfl]
        rcases hu j0 D0 cs (by simp) e with e3 | ⟨e3, e4⟩
        · subst e3; rw [hd] at e; cases e; rfl
        · exfalso
          rcases List.mem_cons.1 h with e5 | h
          · cases e5; exact e3 rfl
          · obtain ⟨D', h'⟩ := chain_closed hc.1 h e4
            exact hc.2.1 D' h'
      · rw [if_neg e2]
        exact tl fun c' e3 => by rw [e] at e3; cases e3; exact e2 rfl
    · rename_i e
      exact tl fun c' e3 => by rw [e] at e3; cases e3
theorem sig_b' {t : Nat} {B : Buf} : ∀ {L : List (Nat × Del)}, look (sig L st0).b t = some B → (∃ j D, (j, D) ∈ L ∧ look D.bs t = some B) ∨ look st0.b t = some B
  | [], h => .inr h
  | (j0, D0) :: L, h => by
    simp only [sig] at h
    rw [put_b] at h
    split at h
    · rename_i x e; cases h; exact .inl ⟨j0, D0, by simp, e⟩
    · exact (sig_b' h).imp (fun ⟨j, D, h1, h2⟩ => ⟨j, D, by simp [h1], h2⟩) id
theorem sig_b0 {t : Nat} : ∀ {L : List (Nat × Del)}, (∀ j D, (j, D) ∈ L → look D.bs t = none) → look (sig L st0).b t = look st0.b t
  | [], _ => rfl
  | (j0, D0) :: L, h => by
    simp only [sig]
    rw [put_b, h j0 D0 (by simp)]
    exact sig_b0 fun j D hj => h j D (by simp [hj])
theorem sig_b {j t : Nat} {D : Del} {B : Buf} : ∀ {L : List (Nat × Del)}, (j, D) ∈ L → look D.bs t = some B → (∀ j' D' B', (j', D') ∈ L → look D'.bs t = some B' → D' = D) → look (sig L st0).b t = some B
  | [], h, _, _ => by simp at h
  | (j0, D0) :: L, h, hd, hu => by
    simp only [sig]
    rw [put_b]
    split
    · rename_i x e
      have := hu j0 D0 x (by simp) e
      subst this
      rw [hd] at e; cases e; rfl
    · rename_i e
      rcases List.mem_cons.1 h with e2 | h
      · cases e2; rw [hd] at e; cases e
      · exact sig_b h hd fun j' D' B' h' => hu j' D' B' (by simp [h'])

theorem putDels_b {mask t : Nat} {B : Buf} : ∀ {ds : List (Nat × Del)}, look (putDels mask ds st0).b t = some B → (∃ j D, (j, D) ∈ ds ∧ Nat.testBit mask j = true ∧ look D.bs t = some B) ∨ look st0.b t = some B
  | [], h => .inr h
  | (j, D) :: ds, h => by
    simp only [putDels] at h
    have tl : look (putDels mask ds st0).b t = some B → (∃ j' D', (j', D') ∈ (j, D) :: ds ∧ Nat.testBit mask j' = true ∧ look D'.bs t = some B) ∨ look st0.b t = some B := fun h =>
      (putDels_b h).imp (fun ⟨j', D', h1, h2⟩ => ⟨j', D', by simp [h1], h2⟩) id
    cases e : Nat.testBit mask j with
    | false => rw [e] at h; exact tl h
    | true =>
      rw [e] at h
      simp only [cond_true] at h
      rw [put_b] at h
      split at h
      · rename_i x e2; cases h; exact .inl ⟨j, D, by simp, e, e2⟩
      · exact tl h
theorem putDels_dom {mask mask' t : Nat} (hs : ∀ b, Nat.testBit mask' b = true → Nat.testBit mask b = true) : ∀ {ds : List (Nat × Del)}, (look (putDels mask' ds st0).b t).isSome = true → (look (putDels mask ds st0).b t).isSome = true
  | [], h => h
  | (j, D) :: ds, h => by
    simp only [putDels] at h ⊢
    have ih : (look (putDels mask' ds st0).b t).isSome = true → (look (putDels mask ds st0).b t).isSome = true := putDels_dom hs
    cases e : Nat.testBit mask' j with
    | true =>
      rw [e] at h
      rw [hs j e]
      simp only [cond_true] at h ⊢
      rw [put_b] at h ⊢
      split
      · rfl
      · rename_i e2; rw [e2] at h; exact ih h
    | false =>
      rw [e] at h
      simp only [cond_false] at h
      have := ih h
      cases Nat.testBit mask j with
      | false => exact this
      | true =>
        simp only [cond_true]
        rw [put_b]
        split
        · rfl
        · exact this
theorem putDels_dom1 {mask t j : Nat} {D : Del} (h : (look (putDels mask ds st0).b t).isSome = true) : (look (putDels mask ((j, D) :: ds) st0).b t).isSome = true := by
  simp only [putDels]
  cases Nat.testBit mask j with
  | false => exact h
  | true =>
    simp only [cond_true]
    rw [put_b]
    split
    · rfl
    · exact h
theorem st0_dom {mask t : Nat} : ∀ {ds : List (Nat × Del)}, (look st0.b t).isSome = true → (look (putDels mask ds st0).b t).isSome = true
  | [], h => h
  | (j, D) :: ds, h => putDels_dom1 (st0_dom h)
theorem okTok_mono {bs bs' : List (Nat × Buf)} (h : ∀ t, (look bs t).isSome = true → (look bs' t).isSome = true) (p : PC) (hp : PC.okTok bs p = true) : PC.okTok bs' p = true := by
  unfold PC.okTok at hp ⊢
  cases e : p.tk with
  | none => rfl
  | some t => rw [e] at hp; exact h t hp
theorem closed_ok {mask : Nat} (hcl : ∀ j b, Nat.testBit mask j = true → Nat.testBit (mkm ms j) b = true → Nat.testBit mask b = true) : ∀ {ds : List (Nat × Del)}, Closed ms st0 ds → ∀ j D, (j, D) ∈ ds → Nat.testBit mask j = true →
    PV.allC (PC.okTok (putDels mask ds st0).b) D.v = true ∧ ∀ r cs, D.row = some (r, cs) → cs.all (PC.okTok (putDels mask ds st0).b) = true
  | [], _, j, D, h, _ => by simp at h
  | (j0, D0) :: ds, hc, j, D, h, hb => by
    rcases List.mem_cons.1 h with e | h
    · have e1 : j = j0 := congrArg Prod.fst e
      have e2 : D = D0 := congrArg Prod.snd e
      subst e1; subst e2
      have key : ∀ t, (look (D.bs ++ (putDels ((nth ms j).getD 0) ds st0).b) t).isSome = true → (look (putDels mask ((j, D) :: ds) st0).b t).isSome = true := by
        intro t ht
        simp only [putDels, hb, cond_true]
        rw [put_b]
        rw [look_app] at ht
        split
        · rfl
        · rename_i e
          rw [e] at ht
          exact putDels_dom (fun b hbb => hcl j b hb hbb) ht
      refine ⟨PV.allC_imp (okTok_mono key) hc.2.1, fun r cs e => List.all_eq_true.2 fun p hp => okTok_mono key p (List.all_eq_true.1 (hc.2.2 r cs e) p hp)⟩
    · obtain ⟨h1, h2⟩ := closed_ok hcl hc.1 j D h hb
      have key : ∀ t, (look (putDels mask ds st0).b t).isSome = true → (look (putDels mask ((j0, D0) :: ds) st0).b t).isSome = true := fun t => putDels_dom1
      exact ⟨PV.allC_imp (okTok_mono key) h1, fun r cs e => List.all_eq_true.2 fun p hp => okTok_mono key p (List.all_eq_true.1 (h2 r cs e) p hp)⟩
theorem putDels_r {mask r : Nat} {c : List PC} : ∀ {ds : List (Nat × Del)}, (ds.map (·.1)).Pairwise (· > ·) → (putDels mask ds st0).row r = some c →
    (∃ j D, (j, D) ∈ ds ∧ Nat.testBit mask j = true ∧ D.row = some (r, c) ∧ ∀ j' D' c', (j', D') ∈ ds → Nat.testBit mask j' = true → D'.row = some (r, c') → j' ≤ j) ∨
      (st0.row r = some c)
  | [], _, h => .inr h
  | (j, D) :: ds, hp, h => by
    simp only [putDels] at h
    simp only [List.map_cons, List.pairwise_cons] at hp
    have tl : (putDels mask ds st0).row r = some c → (Nat.testBit mask j = true → ∀ c', D.row ≠ some (r, c')) → (∃ j' D', (j', D') ∈ (j, D) :: ds ∧ Nat.testBit mask j' = true ∧ D'.row = some (r, c) ∧ ∀ j2 D2 c', (j2, D2) ∈ (j, D) :: ds → Nat.testBit mask j2 = true → D2.row = some (r, c') → j2 ≤ j') ∨ (st0.row r = some c) := fun h hne =>
      (putDels_r hp.2 h).imp (fun ⟨j', D', h1, h2, h3, h4⟩ => ⟨j', D', by simp [h1], h2, h3, fun j2 D2 c' q1 q2 q3 => by
        rcases List.mem_cons.1 q1 with e | q1
        · cases e; exact absurd q3 (hne q2 c')
        · exact h4 j2 D2 c' q1 q2 q3⟩) id
    cases e : Nat.testBit mask j with
    | false => rw [e] at h; exact tl h fun e2 => by rw [e] at e2; cases e2
    | true =>
      rw [e] at h
      simp only [cond_true] at h
      rw [put_row] at h
      split at h
      · rename_i r' cs e2
        by_cases e3 : r' = r
        · subst e3
          rw [if_pos rfl] at h; cases h
          refine .inl ⟨j, D, by simp, e, e2, fun j2 D2 c' q1 q2 q3 => ?_⟩
          rcases List.mem_cons.1 q1 with e4 | q1
          · cases e4; exact Nat.le_refl _
          · exact Nat.le_of_lt (hp.1 j2 (List.mem_map.2 ⟨_, q1, rfl⟩))
        · rw [if_neg e3] at h
          exact tl h fun _ c' e4 => by rw [e2] at e4; cases e4; exact e3 rfl
      · rename_i e2
        exact tl h fun _ c' e4 => by rw [e2] at e4; cases e4
theorem TOk.desc {n : Nat} (h : TOk all ds n) : (ds.map (·.1)).Pairwise (· > ·) := by
  rw [h.ix]
  exact List.pairwise_reverse.2 (List.pairwise_lt_range.imp fun h => h)

/-- All that is known of a region. -/
structure Ctx (E : Env) (all : List Oper) (dl : List (Nat × Nat)) (st0 : St) (m : Nat) (T : List (Nat × Del)) : Prop where
  mle : m ≤ all.length
  low : msLow 0 (masks [] all) = true
  reg : Reg all st0 m
  tok : TOk all T m
  spec : ∀ i o, i < m → all[i]? = some o → ∃ D, (i, D) ∈ T ∧ Spec E all (masks [] all) dl st0 T i o D
  clean : ∀ j d, j < m → (nth all j).bind (·.dst) = some d → Clean d st0
  ct : ∀ n pv, look st0.t n = some pv → PV.allC (PC.okTok st0.b) pv = true
  cr : ∀ r c, st0.row r = some c → c.all (PC.okTok st0.b) = true
  dl : ∀ j o d, j < m → all[j]? = some o → o.dst = some d → (j, d) ∈ dl
  store : ∀ i o T t v, i < m → all[i]? = some o → o.op = .store T (.tmp t) v → o.guard = none ∧ ∃ a, a < m ∧ (nth all a).bind (·.dst) = some t ∧ Nat.testBit (mkm (masks [] all) i) a = true ∧
    ∀ i', i' < m → Nat.testBit (mkm (masks [] all) i') a = true → i' = i ∨ Nat.testBit (mkm (masks [] all) i') i = true ∨ Nat.testBit (mkm (masks [] all) i) i' = true
  isE : ∀ i o, i < m → all[i]? = some o → isE o = true
  guard : ∀ i o j v, all[i]? = some o → o.guard = some (j, v) → Nat.testBit (mkm (masks [] all) i) j = true

variable (C : Ctx E all dl st0 m T)
include C
theorem Ctx.ent {j : Nat} {D : Del} (hj : (j, D) ∈ T) : ∃ o, all[j]? = some o ∧ j < m ∧ Spec E all (masks [] all) dl st0 T j o D := by
  have hlt := C.tok.lt hj
  have hlt2 : j < all.length := by have := C.mle; omega
  obtain ⟨D', h1, h2⟩ := C.spec j _ hlt (List.getElem?_eq_getElem hlt2)
  have := nodup_fst C.tok.nodup h1 hj
  subst this
  exact ⟨_, List.getElem?_eq_getElem hlt2, hlt, h2⟩
theorem Ctx.uniq {j j' n : Nat} {D D' : Del} (h : (j, D) ∈ T) (h' : (j', D') ∈ T) (hd : D.d = some n) (hd' : D'.d = some n) : j = j' ∧ D = D' := by
  have h1 := C.tok.d j D h
  have h2 := C.tok.d j' D' h'
  have : j = j' := C.reg.dst j j' n (C.tok.lt h) (C.tok.lt h') (by rw [← h1]; exact hd) (by rw [← h2]; exact hd')
  subst this
  exact ⟨rfl, nodup_fst C.tok.nodup h h'⟩
theorem Ctx.bs {j t : Nat} {D : Del} {B : Buf} (hj : (j, D) ∈ T) (hB : look D.bs t = some B) : ∃ d, (nth all j).bind (·.dst) = some d ∧ tokOf d t = true ∧ ∀ q ∈ dl, q.1 = j ∨ tokOf q.2 t = false := by
  obtain ⟨o, h1, h2, h3⟩ := C.ent hj
  have hmem : ∀ {l : List (Nat × Buf)} {B : Buf}, look l t = some B → ∃ B', (t, B') ∈ l := by
    intro l
    induction l with
    | nil => intro B h; cases h
    | cons x l ih =>
      intro B h
      obtain ⟨n, y⟩ := x
      rw [look_cons] at h
      by_cases e : n = t
      · subst e; exact ⟨y, by simp⟩
      · rw [if_neg e] at h
        obtain ⟨B', h'⟩ := ih h
        exact ⟨B', by simp [h']⟩
  cases h3 with
  | exec ds st' hb hcl hk hg hs hx hD hsf =>
    simp only [Del.safe, Bool.and_eq_true] at hsf
    obtain ⟨⟨⟨_, _⟩, h4⟩, _⟩ := hsf
    cases hds : o.dst with
    | none =>
      rw [hds] at h4
      have : D.bs = [] := List.isEmpty_iff.1 h4
      rw [this] at hB; cases hB
    | some d =>
      rw [hds] at h4
      obtain ⟨B', hm⟩ := hmem hB
      have := List.all_eq_true.1 h4 _ hm
      simp only [Bool.and_eq_true] at this
      refine ⟨d, by rw [nth_eq, h1]; exact hds, this.1, fun q hq => ?_⟩
      have := List.all_eq_true.1 this.2 q hq
      simp only [Bool.or_eq_true, Bool.not_eq_true'] at this
      exact this.imp (fun h => Nat.eq_of_beq_eq_true h) id
  | skip j want hg ho hD => subst hD; cases hB
  | pick c j k x y b v ds ho hb hcl hki hk hg hj hc hm hv hD => subst hD; cases hB
theorem Ctx.row {j r : Nat} {D : Del} {c : List PC} (hj : (j, D) ∈ T) (hr : D.row = some (r, c)) : ∃ o, all[j]? = some o ∧ (o.dst = some r ∧ isQ o = true ∨ ∃ t v, o.op = .store t (.tmp r) v) := by
  obtain ⟨o, h1, h2, h3⟩ := C.ent hj
  refine ⟨o, h1, ?_⟩
  cases h3 with
  | exec ds st' hb hcl hk hg hs hx hD hsf =>
    have hE := C.isE j o h2 h1
    subst hD
    simp only [delOf] at hr
    obtain ⟨r2, e1, e2⟩ := Option.bind_eq_some_iff.1 hr
    obtain ⟨c2, e3, e4⟩ := Option.map_eq_some_iff.1 e2
    cases e4
    cases hq : isQ o with
    | true => exact .inl ⟨rowOf_quiet hq e1, rfl⟩
    | false =>
      right
      unfold PgAM.isE at hE
      split at hE
      · rename_i t u v ho
        have hrow : (delOf o (putDels ((nth (masks [] all) j).getD 0) ds st0) st').row = some (r, c) := hr
        simp only [Del.safe, Bool.and_eq_true] at hsf
        have h5 := hsf.2
        rw [ho, hrow] at h5
        simp only at h5
        have := Nat.eq_of_beq_eq_true h5
        subst this
        exact ⟨t, v, ho⟩
      · rw [hq] at hE; cases hE
  | skip j want hg ho hD => subst hD; cases hr
  | pick c j k x y b v ds ho hb hcl hki hk hg hj hc hm hv hD => subst hD; cases hr
theorem Ctx.away {j i d : Nat} {D : Del} (hj : (j, D) ∈ T) (hd : (i, d) ∈ dl) (hne : i ≠ j) (hb : Nat.testBit (mkm (masks [] all) j) i = false) :
    PV.allC (fun p => !PC.names d p) D.v = true ∧ ∀ r cs, D.row = some (r, cs) → cs.all (fun p => !PC.names d p) = true := by
  obtain ⟨o, h1, h2, h3⟩ := C.ent hj
  cases h3 with
  | exec ds st' hbw hcl hk hg hs hx hD hsf =>
    simp only [Del.safe, Bool.and_eq_true] at hsf
    obtain ⟨⟨⟨h4, h5⟩, _⟩, _⟩ := hsf
    have key : ∀ p, PC.away ((nth (masks [] all) j).getD 0) j dl p = true → (!PC.names d p) = true := by
      intro p hp
      have := List.all_eq_true.1 hp _ hd
      simp only [Bool.or_eq_true] at this
      rcases this with (h6 | h6) | h6
      · unfold mkm at hb; rw [hb] at h6; cases h6
      · exact absurd (Nat.eq_of_beq_eq_true h6) hne
      · exact h6
    refine ⟨PV.allC_imp key (PV.allC_and h4).2, fun r cs e => ?_⟩
    rw [e] at h5
    simp only at h5
    exact List.all_eq_true.2 fun p hp => key p (by
      have := List.all_eq_true.1 h5 p hp
      simp only [Bool.and_eq_true] at this
      exact this.2)
  | skip j want hg ho hD => subst hD; exact ⟨rfl, fun r cs e => by cases e⟩
  | pick c j k x y b v ds ho hbw hcl hki hk hg hj hc hm hv hD => subst hD; exact ⟨rfl, fun r cs e => by cases e⟩
theorem Ctx.rowDst {j r : Nat} {D : Del} {c : List PC} (hj : (j, D) ∈ T) (hr : D.row = some (r, c)) : ∃ a, a < m ∧ (nth all a).bind (·.dst) = some r ∧ (a = j ∨ Nat.testBit (mkm (masks [] all) j) a = true) := by
  obtain ⟨o, h1, h2⟩ := C.row hj hr
  have hlt := C.tok.lt hj
  rcases h2 with ⟨h2, _⟩ | ⟨t, v, h2⟩
  · exact ⟨j, hlt, by rw [nth_eq, h1]; exact h2, .inl rfl⟩
  · obtain ⟨_, a, a1, a2, a3, _⟩ := C.store j o t r v hlt h1 h2
    exact ⟨a, a1, a2, .inr a3⟩
/-- Two that write a variable are in one order. -/
theorem Ctx.cmp {j j' r : Nat} {D D' : Del} {c c' : List PC} (hj : (j, D) ∈ T) (hr : D.row = some (r, c)) (hj' : (j', D') ∈ T) (hr' : D'.row = some (r, c')) (hne : j' ≠ j) :
    Nat.testBit (mkm (masks [] all) j) j' = true ∨ (Nat.testBit (mkm (masks [] all) j') j = true ∧ ∃ o, all[j']? = some o ∧ isQ o = false) := by
  obtain ⟨o, h1, h2⟩ := C.row hj hr
  obtain ⟨o', h1', h2'⟩ := C.row hj' hr'
  have hlt := C.tok.lt hj
  have hlt' := C.tok.lt hj'
  have nq : ∀ {o : Oper} {t v}, o.op = .store t (.tmp r) v → isQ o = false := fun h => by simp [isQ, h]
  rcases h2 with ⟨h2, _⟩ | ⟨t, v, h2⟩
  · rcases h2' with ⟨h2', _⟩ | ⟨t', v', h2'⟩
    · exact absurd (C.reg.dst j' j r hlt' hlt (by rw [nth_eq, h1']; exact h2') (by rw [nth_eq, h1]; exact h2)) hne
    · obtain ⟨_, a, a1, a2, a3, _⟩ := C.store j' o' t' r v' hlt' h1' h2'
      have : a = j := C.reg.dst a j r a1 hlt a2 (by rw [nth_eq, h1]; exact h2)
      subst this
      exact .inr ⟨a3, o', h1', nq h2'⟩
  · obtain ⟨_, a, a1, a2, a3, a4⟩ := C.store j o t r v hlt h1 h2
    rcases h2' with ⟨h2', _⟩ | ⟨t', v', h2'⟩
    · have : a = j' := C.reg.dst a j' r a1 hlt' a2 (by rw [nth_eq, h1']; exact h2')
      subst this
      exact .inl a3
    · obtain ⟨_, b, b1, b2, b3, _⟩ := C.store j' o' t' r v' hlt' h1' h2'
      have : b = a := C.reg.dst b a r b1 a1 b2 a2
      subst this
      rcases a4 j' hlt' b3 with e | e | e
      · exact absurd e hne
      · exact .inr ⟨e, o', h1', nq h2'⟩
      · exact .inl e
theorem Ctx.sigClean (hL : ∀ p, p ∈ L → p ∈ T) (hc : Chain (masks [] all) L) {i d : Nat} (hi : i < m) (hd : (nth all i).bind (·.dst) = some d) (hn : ∀ D, (i, D) ∉ L) : Clean d (sig L st0) := by
  have hcl := C.clean i d hi hd
  obtain ⟨o, ho1, ho2⟩ := Option.bind_eq_some_iff.1 hd
  rw [nth_eq] at ho1
  have hdl := C.dl i o d hi ho1 ho2
  have hj : ∀ j D, (j, D) ∈ L → i ≠ j ∧ Nat.testBit (mkm (masks [] all) j) i = false := by
    intro j D hj
    refine ⟨fun e => by subst e; exact hn D hj, ?_⟩
    cases e : Nat.testBit (mkm (masks [] all) j) i with
    | false => rfl
    | true =>
      obtain ⟨D', h'⟩ := chain_closed hc hj e
      exact absurd h' (hn D')
  refine ⟨fun n pv h => ?_, fun r c h => ?_, ?_, fun t ht => ?_⟩
  · rcases sig_t' h with ⟨j, D, h1, h2, rfl⟩ | h
    · exact (C.away (hL _ h1) hdl (hj j D h1).1 (hj j D h1).2).1
    · exact hcl.t n pv h
  · rcases sig_r' h with ⟨j, D, h1, h2⟩ | h
    · exact (C.away (hL _ h1) hdl (hj j D h1).1 (hj j D h1).2).2 r c h2
    · exact hcl.r r c h
  · rw [sig_r0]
    · exact hcl.row
    · intro j D c h1 h2
      obtain ⟨a, a1, a2, a3⟩ := C.rowDst (hL _ h1) h2
      have : a = i := C.reg.dst a i d a1 hi a2 hd
      subst this
      rcases a3 with a3 | a3
      · exact (hj j D h1).1 a3
      · rw [(hj j D h1).2] at a3; cases a3
  · rw [sig_b0]
    · exact hcl.b t ht
    · intro j D h1
      cases e : look D.bs t with
      | none => rfl
      | some B =>
        obtain ⟨d', _, _, q3⟩ := C.bs (hL _ h1) e
        rcases q3 _ hdl with q4 | q4
        · exact absurd q4 (hj j D h1).1
        · rw [ht] at q4; cases q4
/-- What an operation sees is a part of what there is. -/
theorem Ctx.sub (hL : ∀ p, p ∈ L → p ∈ T) (hc : Chain (masks [] all) L) {k mask : Nat} (hb : Below all T ds) (hcl : Closed (masks [] all) st0 ds) (hk : TOk all ds k) (hkm : k ≤ m) (hlt : ∀ b, Nat.testBit mask b = true → b < k)
    (hmL : ∀ b, Nat.testBit mask b = true → ∃ D, (b, D) ∈ L) (hmc : ∀ j b, Nat.testBit mask j = true → Nat.testBit (mkm (masks [] all) j) b = true → Nat.testBit mask b = true)
    (hrow : ∀ j1 D1 c1 j2 D2 c2 r, (j1, D1) ∈ T → D1.row = some (r, c1) → Nat.testBit mask j1 = true → (j2, D2) ∈ L → D2.row = some (r, c2) → Nat.testBit mask j2 = true) : Sub (putDels mask ds st0) (sig L st0) := by
  have inL : ∀ j D, (j, D) ∈ T → Nat.testBit mask j = true → (j, D) ∈ L := by
    intro j D hj hm
    obtain ⟨D', h'⟩ := hmL j hm
    have := nodup_fst C.tok.nodup (hL _ h') hj
    subst this; exact h'
  have noDst : ∀ n, (∀ j, j < m → (nth all j).bind (·.dst) ≠ some n) → ∀ j D, (j, D) ∈ L → D.d ≠ some n := by
    intro n hn j D hj e
    exact hn j (C.tok.lt (hL _ hj)) (by rw [← C.tok.d j D (hL _ hj)]; exact e)
  refine ⟨fun n pv h => ?_, fun r c h => ?_, fun t B h => ?_⟩
  · rcases putDels_t h with ⟨j, D, h1, h2, h3, rfl⟩ | h
    · rcases hb j D h1 with h4 | ⟨⟨d, rfl⟩, _⟩
      · refine .inr ⟨sig_t (inL j D h4 h2) h3 (fun j' D' h5 h6 => (C.uniq (hL _ h5) h4 h6 h3).2), (closed_ok hmc hcl j D h1 h2).1⟩
      · exact .inl rfl
    · rcases Classical.em (∃ j, j < m ∧ (nth all j).bind (·.dst) = some n) with ⟨j, h1, h2⟩ | hne
      · rw [C.reg.dead j n h1 h2] at h
        cases h; exact .inl rfl
      · refine .inr ⟨?_, PV.allC_imp (okTok_mono fun t => st0_dom) (C.ct n pv h)⟩
        rw [sig_t0 (noDst n fun j h1 h2 => hne ⟨j, h1, h2⟩)]; exact h
  · rcases putDels_r hk.desc h with ⟨j, D, h1, h2, h3, h4⟩ | h
    · rcases hb j D h1 with h5 | ⟨⟨d, rfl⟩, _⟩
      · refine ⟨sig_r hc (inL j D h5 h2) h3 fun j' D' c' q1 q2 => ?_, (closed_ok hmc hcl j D h1 h2).2 r c h3⟩
        by_cases e : j' = j
        · subst e; exact .inl (nodup_fst C.tok.nodup (hL _ q1) h5)
        · refine .inr ⟨e, ?_⟩
          rcases C.cmp h5 h3 (hL _ q1) q2 e with q3 | ⟨q3, o', q4, q5⟩
          · exact q3
          · exfalso
            have q6 := hrow j D c j' D' c' r h5 h3 h2 q1 q2
            have q7 : j' ∈ ds.map (·.1) := by rw [hk.ix]; simpa using hlt j' q6
            obtain ⟨⟨j2, D2⟩, q8, q9⟩ := List.mem_map.1 q7
            simp only at q9; subst q9
            rcases hb j2 D2 q8 with q10 | ⟨_, o2, q10, q11⟩
            · have := nodup_fst C.tok.nodup q10 (hL _ q1)
              subst this
              have := h4 j2 D2 c' q8 q6 q2
              have := mk_low C.low j2 j q3
              omega
            · rw [nth_eq, q4] at q10; cases q10
              rw [q5] at q11; cases q11
      · cases h3
    · have hne : ∀ j, j < m → (nth all j).bind (·.dst) ≠ some r := fun j h1 h2 => by
        rw [(C.clean j r h1 h2).row] at h; cases h
      refine ⟨?_, List.all_eq_true.2 fun p hp => okTok_mono (fun t => st0_dom) p (List.all_eq_true.1 (C.cr r c h) p hp)⟩
      rw [sig_r0]
      · exact h
      · intro j D c' h1 h2
        obtain ⟨a, a1, a2, _⟩ := C.rowDst (hL _ h1) h2
        exact hne a a1 a2
  · rcases putDels_b h with ⟨j, D, h1, h2, h3⟩ | h
    · rcases hb j D h1 with h4 | ⟨⟨d, rfl⟩, _⟩
      · refine sig_b (inL j D h4 h2) h3 fun j' D' B' h5 h6 => ?_
        obtain ⟨d, q1, q2, q3⟩ := C.bs h4 h3
        obtain ⟨d', q1', q2', q3'⟩ := C.bs (hL _ h5) h6
        obtain ⟨o, q4, q5⟩ := Option.bind_eq_some_iff.1 q1
        rw [nth_eq] at q4
        rcases q3' _ (C.dl j o d (C.tok.lt h4) q4 q5) with q6 | q6
        · simp only at q6; subst q6; exact nodup_fst C.tok.nodup (hL _ h5) h4
        · rw [q2] at q6; cases q6
      · cases h3
    · rw [sig_b0]
      · exact h
      · intro j D h1
        cases e : look D.bs t with
        | none => rfl
        | some B' =>
          obtain ⟨d, q1, q2, _⟩ := C.bs (hL _ h1) e
          rw [(C.clean j d (C.tok.lt (hL _ h1)) q1).b t q2] at h; cases h
/-- A part of a row's writers that is seen by one that comes. -/
theorem Ctx.rowMask (hL : ∀ p, p ∈ L → p ∈ T) (hc : Chain (masks [] all) L) {i : Nat} (hi : i < m) (hn : ∀ D, (i, D) ∉ L) :
    ∀ j1 D1 c1 j2 D2 c2 r, (j1, D1) ∈ T → D1.row = some (r, c1) → Nat.testBit (mkm (masks [] all) i) j1 = true → (j2, D2) ∈ L → D2.row = some (r, c2) → Nat.testBit (mkm (masks [] all) i) j2 = true := by
  intro j1 D1 c1 j2 D2 c2 r h1 h2 h3 h4 h5
  obtain ⟨a, a1, a2, a3⟩ := C.rowDst h1 h2
  have ha : Nat.testBit (mkm (masks [] all) i) a = true := by
    rcases a3 with rfl | a3
    · exact h3
    · exact mk_trans C.low (i + 1) i j1 a (by omega) h3 a3
  obtain ⟨o, o1, o2⟩ := C.row (hL _ h4) h5
  have hlt := C.tok.lt (hL _ h4)
  rcases o2 with ⟨o2, _⟩ | ⟨t, v, o2⟩
  · have : a = j2 := C.reg.dst a j2 r a1 hlt a2 (by rw [nth_eq, o1]; exact o2)
    subst this; exact ha
  · obtain ⟨_, b, b1, b2, b3, b4⟩ := C.store j2 o t r v hlt o1 o2
    have : b = a := C.reg.dst b a r b1 a1 b2 a2
    subst this
    rcases b4 i hi ha with e | e | e
    · subst e; exact absurd h4 (hn D2)
    · exact e
    · obtain ⟨D', h'⟩ := chain_closed hc h4 e
      exact absurd h' (hn D')
end
end Go.PgAM

/-
  A region that is drawn: whatever order its operations come in.
-/
namespace Go.PgAM
open Go Go.RowKit
set_option linter.unusedVariables false
set_option linter.unusedSimpArgs false

theorem put_plain (d : Option Nat) (v : PV) (σ : St) : (⟨d, v, none, []⟩ : Del).put σ = σ.setT d v := by cases d <;> rfl
theorem look_mem : ∀ {l : List (Nat × Buf)} {t : Nat} {B : Buf}, (t, B) ∈ l → look l t ≠ none
  | [], t, B, h => by simp at h
  | (n, y) :: l, t, B, h => by
    rw [look_cons]
    by_cases e : n = t
    · rw [if_pos e]; simp
    · rw [if_neg e]
      rcases List.mem_cons.1 h with e2 | h
      · cases e2; exact absurd rfl e
      · exact look_mem h
theorem newOnes_nil {old : List (Nat × Buf)} : ∀ {l : List (Nat × Buf)}, (∀ t B, (t, B) ∈ l → look old t ≠ none) → newOnes old l = []
  | [], _ => rfl
  | (t, B) :: l, h => by
    simp only [newOnes]
    have := h t B (by simp)
    split
    · rename_i e; exact absurd e this
    · exact newOnes_nil fun t B hm => h t B (by simp [hm])
theorem sub_tmp {s σ : St} (hs : Sub s σ) {n : Nat} {pv : PV} (h : s.tmp n = pv) (hd : pv ≠ .s .dead) : σ.tmp n = pv := by
  unfold St.tmp at h ⊢
  cases e : look s.t n with
  | none => rw [e] at h; exact absurd h.symm hd
  | some q =>
    rw [e] at h
    have h : q = pv := h
    subst h
    rcases hs.t n q e with e2 | ⟨e2, _⟩
    · exact absurd e2 hd
    · rw [e2]; rfl
theorem store_sub {E : Env} {o : Oper} {s st' σ : St} {T : TypeId} {t : Nat} {v : Operand} (hs : Sub s σ) (ho : o.op = .store T (.tmp t) v) (h1 : step1 E o s some = some st') {c : List PC} {r : Nat} (hr : (delOf o s st').row = some (r, c)) :
    step1 E o σ some = some ((delOf o s st').put σ) := by
  have hrow : rowOf o s = some r ∧ st'.row r = some c := by
    simp only [delOf] at hr
    obtain ⟨r2, e1, e2⟩ := Option.bind_eq_some_iff.1 hr
    obtain ⟨c2, e3, e4⟩ := Option.map_eq_some_iff.1 e2
    cases e4; exact ⟨e1, e3⟩
  have hopc : ∃ off, opc s (.tmp t) = some (.loc r off) := by
    have := hrow.1
    unfold rowOf at this
    rw [ho] at this
    simp only at this
    split at this
    · rename_i r' off e; cases this; exact ⟨off, e⟩
    · cases this
  obtain ⟨off, hopc⟩ := hopc
  unfold step1 at h1
  rw [ho] at h1
  simp only at h1
  cases hds : o.dst with
  | some d => rw [hds] at h1; cases h1
  | none =>
    rw [hds] at h1
    simp only at h1
    split at h1
    · rename_i ti r' off' pv e1 e2 e3
      rw [hopc] at e2; cases e2
      split at h1
      · rename_i cs ps e4 e5
        cases hl : Nat.beq ps.length ti.vt.size with
        | false => rw [hl] at h1; cases h1
        | true =>
          rw [hl] at h1
          simp only [cond_true] at h1
          split at h1
          · rename_i cs' e6
            have h1 := Option.some.inj h1
            have htm : σ.tmp t = .s (.loc r off) := by
              refine sub_tmp hs ?_ (by simp)
              unfold opc opv at hopc
              simp only at hopc
              split at hopc
              · rename_i p ep; cases hopc; exact Option.some.inj ep
              · cases hopc
            have hoc : opc σ (.tmp t) = some (.loc r off) := by unfold opc opv; simp only [htm]
            have hov : opv σ v = some pv := by
              cases v with
              | tmp u =>
                have e3 : s.tmp u = pv := Option.some.inj e3
                have : σ.tmp u = pv := sub_tmp hs e3 fun e => by subst e; cases e5
                show some (σ.tmp u) = some pv
                rw [this]
              | const x => exact e3
              | func f => exact e3
              | global g => exact e3
            have hrr := (hs.r r cs e4).1
            have hput : (delOf o s st').put σ = { σ with r := (r, some cs') :: σ.r } := by
              subst h1
              have e7 : (delOf o s { s with r := (r, some cs') :: s.r }).row = some (r, cs') := by
                simp only [delOf, hrow.1, Option.bind_some]
                simp [St.row, look_cons]
              have e8 : (delOf o s { s with r := (r, some cs') :: s.r }).d = none := by simp only [delOf, hds]
              have e9 : (delOf o s { s with r := (r, some cs') :: s.r }).bs = [] := by
                simp only [delOf]
                exact newOnes_nil fun t B hm => look_mem hm
              unfold Del.put
              rw [e7, e8, e9]
              rfl
            rw [hput]
            unfold step1
            rw [ho, hds]
            simp only [e1, hoc, hov, hrr, e5, hl, cond_true, e6]
          · cases h1
      · cases h1
    · rename_i ti tok i cs pv e1 e2 e3
      rw [hopc] at e2; cases e2
    · cases h1

section
variable {P : Program} {Z : At0} {E : Env} {ops : Array Oper} {dl : List (Nat × Nat)} {st0 : St} {T L : List (Nat × Del)} {m : Nat} {X : Cx} {a : Act} {w : World} {Q : Exit → Act → World → Prop}

theorem Ctx.val (C : Ctx E ops.toList dl st0 m T) (hL : ∀ p, p ∈ L → p ∈ T) (h : Rel P Z X (sig L st0) a w) {j c : Nat} {D : Del} (hj : (j, D) ∈ T) (hc : (nth ops.toList j).bind (·.dst) = some c) (hin : ∃ D, (j, D) ∈ L) :
    RelP P X (sig L st0).b w D.v (a.tmps.getD c Go.undef) := by
  obtain ⟨D', h'⟩ := hin
  have := nodup_fst C.tok.nodup (hL _ h') hj
  subst this
  have hd : D'.d = some c := by rw [C.tok.d j D' hj]; exact hc
  exact h.t c _ (sig_t h' hd fun j2 D2 h2 hd2 => (C.uniq (hL _ h2) hj hd2 hd).2)
theorem Ctx.on (C : Ctx E ops.toList dl st0 m T) (hL : ∀ p, p ∈ L → p ∈ T) (h : Rel P Z X (sig L st0) a w) {j : Nat} {b : Bool} (hg : GOn T ops.toList j b) (hin : ∃ D, (j, D) ∈ L) :
    ∃ c, (nth ops.toList j).bind (·.dst) = some c ∧ a.tmps.getD c Go.undef = .bool b := by
  obtain ⟨c, D, h1, h2, h3⟩ := hg
  have := C.val hL h h2 h1 hin
  rw [h3] at this
  exact ⟨c, h1, by simpa only [PV.bo, RelP, RelC, RepS] using this⟩
theorem Ctx.step (C : Ctx E ops.toList dl st0 m T) (hE : EnvOk P E Z) (hdo : ∀ o ∈ ops.toList, dstOk E o = true) (hL : ∀ p, p ∈ L → p ∈ T) (hc : Chain (masks [] ops.toList) L) (h : Rel P Z X (sig L st0) a w)
    {i : Nat} (hi : i < m) (hn : ∀ D, (i, D) ∉ L) (hb : ∀ b, Nat.testBit (mkm (masks [] ops.toList) i) b = true → ∃ D, (b, D) ∈ L) {K : Act → World → Prop}
    (hK : ∀ D a' X' w', (i, D) ∈ T → Rel P Z X' (sig ((i, D) :: L) st0) a' w' → K a' w') : wpOp P ops Q i K a w := by
  have hlen : i < ops.toList.length := by have := C.mle; omega
  have ho : ops.toList[i]? = some ops.toList[i] := List.getElem?_eq_getElem hlen
  generalize ops.toList[i] = o at ho
  obtain ⟨D, hD, hS⟩ := C.spec i o hi ho
  have ho' : ops[i]? = some o := by simpa using ho
  have hom : o ∈ ops.toList := List.mem_of_getElem? ho
  have hdst := hdo o hom
  have hgin : ∀ j v, o.guard = some (j, v) → ∃ D, (j, D) ∈ L := fun j v hg => hb j (C.guard i o j v ho hg)
  have hwant : GuardOn T ops.toList o → Region.wanted o (yielded ops a.tmps) = true := by
    intro hg
    unfold Region.wanted
    cases e : o.guard with
    | none => rfl
    | some q =>
      obtain ⟨j, v⟩ := q
      obtain ⟨c, h1, h2⟩ := C.on hL h (hg j v e) (hgin j v e)
      simp [yielded_of h1 h2]
  have one : Region.wanted o (yielded ops a.tmps) = true → o.wp P a w K Q → wpOp P ops Q i K a w := by
    intro h1 h2
    unfold wpOp
    rw [ho']
    simp only [h1, if_true]
    exact .inl h2
  have hEs := hE.still
  have hqs : Quiet E.still := ⟨(Tab.still_ok hE.C).2, rfl⟩
  have hK := fun a' X' w' hr => hK D a' X' w' hD hr
  have hlow := mk_low C.low i
  cases hS with
  | exec ds st' hbw hcl hk hg h1 hx hDe hsf =>
    have hs : Sub (putDels (mkm (masks [] ops.toList) i) ds st0) (sig L st0) :=
      C.sub hL hc hbw hcl hk (by omega) hlow hb (fun j b q1 q2 => mk_trans C.low (i + 1) i j b (by omega) q1 q2) (C.rowMask hL hc hi hn)
    refine one (hwant hg) ?_
    cases hq : isQ o with
    | true =>
      obtain ⟨d, hds⟩ := isQ_dst hq
      have hdn : (nth ops.toList i).bind (·.dst) = some d := by rw [nth_eq, ho]; exact hds
      have hcl := C.sigClean hL hc hi hdn hn
      refine exec_quiet hEs hqs h hs hq hdst hds hcl h1 hx (fun t B hB => ?_) fun v X' w' hr => hK _ X' w' ?_
      · have hB' : look D.bs t = some B := by rw [hDe]; exact hB
        obtain ⟨d', q1, q2, _⟩ := C.bs hD hB'
        rw [hdn] at q1; cases q1; exact q2
      · show Rel P Z X' (D.put (sig L st0)) _ w'
        rw [hDe]; exact hr
    | false =>
      have hie := C.isE i o hi ho
      unfold PgAM.isE at hie
      split at hie
      · rename_i t u v hop
        have hrow : ∃ c, D.row = some (u, c) := by
          simp only [Del.safe, Bool.and_eq_true] at hsf
          have h5 := hsf.2
          rw [hop] at h5
          simp only at h5
          split at h5
          · rename_i r cs e
            have := Nat.eq_of_beq_eq_true h5
            subst this
            exact ⟨cs, e⟩
          · cases h5
        obtain ⟨c, hrow⟩ := hrow
        have h2 := store_sub hs hop h1 (r := u) (c := c) (by have e := hrow; rw [hDe] at e; exact e)
        refine step1_ok hEs h hdst h2 fun v X' w' hr _ => hK _ X' w' ?_
        show Rel P Z X' (D.put (sig L st0)) _ w'
        rw [hDe]; exact hr
      · rw [hq] at hie; cases hie
  | skip j want hg hoff hDe =>
    obtain ⟨c, Dj, q1, q2, q3⟩ := hoff
    have hv := C.val hL h q2 q1 (hgin j want hg)
    have hw : Region.wanted o (yielded ops a.tmps) = false := by
      unfold Region.wanted
      rw [hg]
      show (yielded ops a.tmps j == some want) = false
      rcases q3 with q3 | q3
      · rw [q3] at hv
        have : a.tmps.getD c Go.undef = .bool (!want) := by simpa only [PV.bo, RelP, RelC, RepS] using hv
        rw [yielded_of q1 this]
        cases want <;> rfl
      · rw [q3] at hv
        rw [yielded_undef q1 hv]; rfl
    unfold wpOp
    rw [ho']
    simp only [hw]
    refine hK _ X w ?_
    show Rel P Z X (D.put (sig L st0)) _ w
    rw [hDe, put_plain]
    exact h.put' (dst_lt hE hdst) rfl
  | pick c j k x y b v ds hop hbw hcl hki hk hg hj hcd hm hv hDe =>
    refine one (hwant hg) ?_
    obtain ⟨c', q1, q2⟩ := C.on hL h hj (hb j hm)
    rw [hcd] at q1; cases q1
    obtain ⟨pv, q3, q4⟩ := bind_some2 hv
    have hval : a.eval (cond b x y) = .bool v := by
      cases e : cond b x y with
      | tmp u =>
        rw [e] at q3
        have q3 : (putDels (mkm (masks [] ops.toList) i) ds st0).tmp u = pv := Option.some.inj q3
        have hpv : pv = .bo v := by
          unfold asBool at q4
          split at q4
          · cases q4; rfl
          · cases q4
        subst hpv
        unfold St.tmp at q3
        cases el : look (putDels (mkm (masks [] ops.toList) i) ds st0).t u with
        | none => rw [el] at q3; cases q3
        | some pv =>
          rw [el] at q3
          have q3 : pv = .bo v := q3
          subst q3
          rcases putDels_t el with ⟨j', D', r1, r2, r3, r4⟩ | r1
          · rcases hbw j' D' r1 with r5 | ⟨⟨d, rfl⟩, _⟩
            · have := C.on hL h (j := j') (b := v) ⟨u, D', by rw [← C.tok.d j' D' r5]; exact r3, r5, r4⟩ (hb j' r2)
              obtain ⟨u', s1, s2⟩ := this
              rw [← C.tok.d j' D' r5, r3] at s1
              cases s1; exact s2
            · cases r4
          · rcases Classical.em (∃ j, j < m ∧ (nth ops.toList j).bind (·.dst) = some u) with ⟨j2, t1, t2⟩ | hne
            · rw [C.reg.dead j2 u t1 t2] at r1; cases r1
            · have := h.t u (.bo v) (by
                rw [sig_t0]
                · exact r1
                · intro j2 D2 t1 t2
                  exact hne ⟨j2, C.tok.lt (hL _ t1), by rw [← C.tok.d j2 D2 (hL _ t1)]; exact t2⟩)
              have this : a.tmps.getD u Go.undef = .bool v := by simpa only [PV.bo, RelP, RelC, RepS] using this
              exact this
      | const x =>
        rw [e] at q3
        exact asBool_ok q4 (opv_ok h (show opv (sig L st0) (.const x) = some pv from q3))
      | func f =>
        rw [e] at q3
        exact asBool_ok q4 (opv_ok h (show opv (sig L st0) (.func f) = some pv from q3))
      | global g => rw [e] at q3; cases q3
    have hrun : (execOp a.eval o).run P w = .ok (.value (.bool v)) w := by
      unfold execOp
      rw [hop]
      have e3 : a.eval (.tmp c) = .bool b := q2
      simp only [e3, Go.asBool, Sem.run_bind, Sem.run_pure, Result.andThen_ok]
      have : (if b = true then a.eval x else a.eval y) = .bool v := by cases b <;> exact hval
      rw [this]
    refine wp_value hrun (hK _ X w ?_)
    show Rel P Z X (D.put (sig L st0)) _ w
    rw [hDe, put_plain]
    exact h.put' (dst_lt hE hdst) (by simp only [PV.bo, RelP, RelC, RepS])

theorem binds_any (e : Edge) : Region.binds .any e = bindsAny e := by
  unfold Region.binds bindsAny
  cases e.ground <;> rfl
theorem exists_min : ∀ {U : List Nat}, U ≠ [] → ∃ i ∈ U, ∀ j ∈ U, i ≤ j
  | [], h => absurd rfl h
  | [x], _ => ⟨x, by simp, fun j hj => by simp at hj; omega⟩
  | x :: y :: U, _ => by
    obtain ⟨i, h1, h2⟩ := exists_min (U := y :: U) (by simp)
    by_cases e : x ≤ i
    · refine ⟨x, by simp, fun j hj => ?_⟩
      rcases List.mem_cons.1 hj with rfl | hj
      · exact Nat.le_refl _
      · exact Nat.le_trans e (h2 j hj)
    · refine ⟨i, by simp [h1], fun j hj => ?_⟩
      rcases List.mem_cons.1 hj with rfl | hj
      · omega
      · exact h2 j hj
theorem nodup_single {l : List Nat} {k : Nat} (hn : l.Nodup) (h : ∀ i, i ∈ l ↔ i = k) : l = [k] := by
  match l, hn, h with
  | [], _, h => exact absurd ((h k).2 rfl) (by simp)
  | [x], _, h => rw [(h x).1 (by simp)]
  | x :: y :: l, hn, h =>
    have h1 := (h x).1 (by simp)
    have h2 := (h y).1 (by simp)
    subst h1; subst h2
    simp at hn
theorem ready_nodup (md : Region.Mode) (ops : Array Oper) (listed : Array Bool) : (Region.ready md ops listed).Nodup := List.nodup_range.filter _
theorem ready_bits (hlow : msLow 0 (masks [] ops.toList) = true) {listed : Array Bool} (hcl : ∀ j b, listed.getD j false = true → Nat.testBit (mkm (masks [] ops.toList) j) b = true → listed.getD b false = true) {i : Nat} (hr : i ∈ Region.ready .any ops listed) :
    ∀ b, Nat.testBit (mkm (masks [] ops.toList) i) b = true → listed.getD b false = true := by
  obtain ⟨_, o, ho, he⟩ := mem_ready.1 hr
  intro b hb
  obtain ⟨e, h1, h2, h3⟩ := (mk_bit hlow (by simpa using ho : ops.toList[i]? = some o)).1 hb
  have := he e h1 (by rw [binds_any]; exact h2)
  rcases h3 with h3 | h3
  · rw [← h3]; exact this
  · exact hcl e.on b this h3
theorem ready_of (hlow : msLow 0 (masks [] ops.toList) = true) {listed : Array Bool} {i : Nat} (hi : i < ops.size) (hs : listed.size = ops.size) (hn : listed.getD i false = false) (hall : ∀ j, j < i → listed.getD j false = true) : i ∈ Region.ready .any ops listed := by
  refine mem_ready.2 ⟨getD_in (by omega) hn, ops[i], Array.getElem?_eq_getElem hi, fun e he hb => ?_⟩
  refine hall e.on (mk_low hlow i e.on ?_)
  refine (mk_bit hlow (o := ops[i]) (by simp [hi])).2 ⟨e, he, by rw [← binds_any]; exact hb, .inl rfl⟩
theorem seqB_ok (hlow : msLow 0 (masks [] ops.toList) = true) (htail : ∀ i, m ≤ i → i < ops.size → mkm (masks [] ops.toList) i = 2 ^ i - 1) : ∀ (g k : Nat) (listed : Array Bool), k + g = ops.size → m ≤ k → listed.size = ops.size → (∀ j, listed.getD j false = true ↔ j < k) → Region.seqB .any ops g k listed = true
  | 0, k, listed, hk, hm, hs, hl => by
    simp only [Region.seqB, List.isEmpty_iff]
    cases e : Region.ready .any ops listed with
    | nil => rfl
    | cons i l =>
      have : i ∈ Region.ready .any ops listed := by rw [e]; simp
      obtain ⟨h1, o, ho, _⟩ := mem_ready.1 this
      have hlt := (Array.getElem?_eq_some_iff.1 ho).1
      have := (hl i).2 (by omega)
      rw [getD_both h1] at this; cases this
  | g + 1, k, listed, hk, hm, hs, hl => by
    simp only [Region.seqB, Bool.and_eq_true, decide_eq_true_eq]
    have hcl : ∀ j b, listed.getD j false = true → Nat.testBit (mkm (masks [] ops.toList) j) b = true → listed.getD b false = true := by
      intro j b h1 h2
      have := (hl j).1 h1
      have := mk_low hlow j b h2
      exact (hl b).2 (by omega)
    have hkf : listed.getD k false = false := by
      cases e : listed.getD k false with
      | false => rfl
      | true => have := (hl k).1 e; omega
    refine ⟨nodup_single (ready_nodup _ _ _) fun i => ⟨fun hr => ?_, fun e => ?_⟩, ?_⟩
    · have hb := ready_bits hlow hcl hr
      obtain ⟨h1, o, ho, _⟩ := mem_ready.1 hr
      have hlt := (Array.getElem?_eq_some_iff.1 ho).1
      rcases Nat.lt_trichotomy i k with h2 | h2 | h2
      · have := (hl i).2 h2
        rw [getD_both h1] at this; cases this
      · exact h2
      · have := hb k (by rw [htail i (by omega) hlt, Nat.testBit_two_pow_sub_one]; simpa using h2)
        rw [hkf] at this; cases this
    · subst e
      exact ready_of hlow (by omega) hs hkf fun j hj => (hl j).2 hj
    · refine seqB_ok hlow htail g (k + 1) _ (by omega) (by omega) (by simp [hs]) fun j => ?_
      by_cases e : k = j
      · subst e
        have : k < listed.size := by omega
        simp [this]
      · rw [getD_set_ne false e, hl j]; omega

theorem Ctx.any (C : Ctx E ops.toList dl st0 m T) (hE : EnvOk P E Z) (hdo : ∀ o ∈ ops.toList, dstOk E o = true) (htail : ∀ i, m ≤ i → i < ops.size → mkm (masks [] ops.toList) i = 2 ^ i - 1)
    (hend : ∀ L X a w, Chain (masks [] ops.toList) L → (∀ p, p ∈ L → p ∈ T) → (∀ j, j < m → ∃ D, (j, D) ∈ L) → Rel P Z X (sig L st0) a w → wpList P ops Q (ops.toList.drop m) a w) :
    ∀ (f : Nat) {U : List Nat} {listed : Array Bool} {L : List (Nat × Del)} {X : Cx} {a : Act} {w : World}, U.length = f → U.Nodup → (∀ j, j ∈ U ↔ j < m ∧ ∀ D, (j, D) ∉ L) → listed.size = ops.size → (∀ j, listed.getD j false = true ↔ ∃ D, (j, D) ∈ L) →
      Chain (masks [] ops.toList) L → (∀ p, p ∈ L → p ∈ T) → Rel P Z X (sig L st0) a w → wpAny P .any ops Q (f + (ops.size - m)) listed a w := by
  intro f
  have hsz : m ≤ ops.size := by have := C.mle; simpa using this
  induction f with
  | zero =>
    intro U listed L X a w hU hUn hUm hls hlL hc hL h
    have hU0 : U = [] := List.eq_nil_of_length_eq_zero hU
    subst hU0
    have hall : ∀ j, j < m → ∃ D, (j, D) ∈ L := by
      intro j hj
      refine Classical.byContradiction fun hne => ?_
      exact absurd ((hUm j).2 ⟨hj, fun D hD => hne ⟨D, hD⟩⟩) (by simp)
    have hl : ∀ j, listed.getD j false = true ↔ j < m := fun j => (hlL j).trans ⟨fun ⟨D, hD⟩ => C.tok.lt (hL _ hD), hall j⟩
    have := wpAny_of_seq (md := .any) (Q' := Q) (ops.toList.drop m) m listed a w (fun j => by simp) (by
      have := seqB_ok C.low htail (ops.size - m) m listed (by omega) (Nat.le_refl _) hls hl
      simpa using this) (hend L X a w hc hL hall h)
    simpa using this
  | succ f ih =>
    intro U listed L X a w hU hUn hUm hls hlL hc hL h
    rw [show f + 1 + (ops.size - m) = (f + (ops.size - m)) + 1 by omega]
    have hUne : U ≠ [] := fun e => by subst e; cases hU
    have hcl : ∀ j b, listed.getD j false = true → Nat.testBit (mkm (masks [] ops.toList) j) b = true → listed.getD b false = true := by
      intro j b h1 h2
      obtain ⟨D, hD⟩ := (hlL j).1 h1
      exact (hlL b).2 (chain_closed hc hD h2)
    refine ⟨fun he => ?_, fun i hr => ?_⟩
    · exfalso
      obtain ⟨i, h1, h2⟩ := exists_min hUne
      obtain ⟨h3, h4⟩ := (hUm i).1 h1
      have : i ∈ Region.ready .any ops listed := by
        refine ready_of C.low (by omega) hls ?_ fun j hj => ?_
        · cases e : listed.getD i false with
          | false => rfl
          | true => obtain ⟨D, hD⟩ := (hlL i).1 e; exact absurd hD (h4 D)
        · refine (hlL j).2 (Classical.byContradiction fun hne => ?_)
          have := h2 j ((hUm j).2 ⟨by omega, fun D hD => hne ⟨D, hD⟩⟩)
          omega
      rw [he] at this; cases this
    · have hbits := ready_bits C.low hcl hr
      obtain ⟨h1, o, ho, _⟩ := mem_ready.1 hr
      have hlt := (Array.getElem?_eq_some_iff.1 ho).1
      have hn : ∀ D, (i, D) ∉ L := fun D hD => by
        have := (hlL i).2 ⟨D, hD⟩
        rw [getD_both h1] at this; cases this
      have him : i < m := by
        rcases Nat.lt_or_ge i m with h2 | h2
        · exact h2
        · exfalso
          obtain ⟨u, hu, _⟩ := exists_min hUne
          obtain ⟨h3, h4⟩ := (hUm u).1 hu
          have := hbits u (by rw [htail i h2 hlt, Nat.testBit_two_pow_sub_one]; simp; omega)
          obtain ⟨D, hD⟩ := (hlL u).1 this
          exact h4 D hD
      refine C.step hE hdo hL hc h him hn (fun b hb => (hlL b).1 (hbits b hb)) fun D a' X' w' hD hr' => ?_
      have hiU : i ∈ U := (hUm i).2 ⟨him, hn⟩
      refine ih (U := U.erase i) (by rw [List.length_erase_of_mem hiU]; omega) (hUn.erase i) (fun j => ?_) (by simp [hls]) (fun j => ?_) (L := (i, D) :: L) ⟨hc, hn, fun b hb => (hlL b).1 (hbits b hb)⟩ (fun p hp => ?_) hr'
      · rw [hUn.mem_erase_iff, hUm j]
        constructor
        · rintro ⟨h2, h3, h4⟩
          refine ⟨h3, fun D' hD' => ?_⟩
          rcases List.mem_cons.1 hD' with e | hD'
          · cases e; exact h2 rfl
          · exact h4 D' hD'
        · rintro ⟨h3, h4⟩
          exact ⟨fun e => by subst e; exact h4 D (by simp), h3, fun D' hD' => h4 D' (by simp [hD'])⟩
      · by_cases e : i = j
        · subst e
          have : i < listed.size := by omega
          simp [this]
        · rw [getD_set_ne false e, hlL j]
          constructor
          · rintro ⟨D', hD'⟩; exact ⟨D', by simp [hD']⟩
          · rintro ⟨D', hD'⟩
            rcases List.mem_cons.1 hD' with e2 | hD'
            · cases e2; exact absurd rfl e
            · exact ⟨D', hD'⟩
      · rcases List.mem_cons.1 hp with rfl | hp
        · exact hD
        · exact hL p hp

theorem runDraw_ok (hE : EnvOk P E Z) (hm : P.follows .mixedOrders = true) {id : Nat} {st : St} {R : Type} {k : St → Option R} {y : R} (hdo : ∀ o ∈ ops.toList, dstOk E o = true) (h : Rel P Z X st a w) (hr : runDraw E id ops.toList st k = some y)
    (hk : ∀ X' st' a' w', Rel P Z X' st' a' w' → k st' = some y → Q .normal a' w') : (Code.region id ops true).wp P Q a w := by
  refine wp_region_any hm ?_
  have h := h.drew
  show wpAny P .any ops Q ops.size (Array.replicate ops.size false) a w.drew
  unfold runDraw at hr
  simp only at hr
  obtain ⟨hc, hr⟩ := cond_some hr
  simp only [Bool.and_eq_true] at hc
  obtain ⟨⟨⟨⟨c1, c2⟩, c3⟩, c4⟩, c5⟩ := hc
  obtain ⟨F1, _, _, _, h⟩ := Rel.share ((look E.shr id).getD []) h
  generalize hm0 : max (tailAt (masks [] ops.toList) ops.toList.length) (lastPick 0 0 ops.toList) = m at hr c1 c2 c3
  have hmle : m ≤ ops.toList.length := by
    have h1 := tailAt_le (masks [] ops.toList) ops.toList.length
    have h2 := lastPick_le ops.toList 0 0
    omega
  have htl : (ops.toList.take m).length = m := by simp at hmle ⊢; omega
  have hes : ∀ i, i < m → (ops.toList.take m)[i]? = ops.toList[i]? := fun i hi => by rw [List.getElem?_take, if_pos hi]
  have h := Rel.prep (dstsOf (ops.toList.take m)) h
  generalize hst0 : (st.share ((look E.shr id).getD [])).prep (dstsOf (ops.toList.take m)) = st0 at hr h
  have hnd := noDup_ok c3
  have hdmem : ∀ j c, j < m → (nth ops.toList j).bind (·.dst) = some c → c ∈ dstsOf (ops.toList.take m) := by
    intro j c hj hc
    obtain ⟨o, h1, h2⟩ := Option.bind_eq_some_iff.1 hc
    rw [nth_eq] at h1
    exact mem_dstsOf (by rw [hes j hj]; exact h1) h2
  have hclean : ∀ j c, j < m → (nth ops.toList j).bind (·.dst) = some c → Clean c st0 ∧ look st0.t c = some (.s .dead) := by
    intro j c hj hc
    rw [← hst0]
    exact prep_clean _ (hdmem j c hj hc)
  have hreg : Reg ops.toList st0 m := by
    refine ⟨fun j j' c h1 h2 h3 h4 => ?_, fun j c h1 h2 => (hclean j c h1 h2).2, fun i o j v h1 h2 => ?_⟩
    · obtain ⟨o, q1, q2⟩ := Option.bind_eq_some_iff.1 h3
      obtain ⟨o', q3, q4⟩ := Option.bind_eq_some_iff.1 h4
      rw [nth_eq] at q1 q3
      exact dstsOf_inj hnd (by rw [hes j h1]; exact q1) (by rw [hes j' h2]; exact q3) q2 q4
    · rw [nth_eq] at h1
      have := guardsIn_ok c5 i o j v h1 h2
      rw [Nat.zero_add] at this
      exact mk_low c4 i j this
  have hdrop : ops.toList.drop 0 = ops.toList.take m ++ ops.toList.drop m := by simp
  obtain ⟨ds, T, k1, k2, k3, k4, k5, _, k7⟩ := runE_ok (ms := masks [] ops.toList) (dl := dstIx 0 (ops.toList.take m)) hreg _ hr hdrop (by omega) (T := []) (fun j D h => by simp at h) trivial ⟨rfl, fun j D h => by simp at h⟩ ⟨rfl, fun j D h => by simp at h⟩ (fun j v h => by simp at h)
  rw [htl, Nat.zero_add] at k4 k5
  have C : Ctx E ops.toList (dstIx 0 (ops.toList.take m)) st0 m T := by
    refine ⟨hmle, c4, hreg, k5, fun i o hi ho => ?_, fun j d h1 h2 => (hclean j d h1 h2).1, fun n pv hn => (h.t n pv hn).okTok, fun r c hr => ?_, fun j o d hj ho hd => ?_, fun i o t u v hi ho hop => ?_, fun i o hi ho => ?_, fun i o j v ho hg => ?_⟩
    · have := k7 i o (by rw [hes i hi]; exact ho)
      simpa using this
    · obtain ⟨_, _, cs, el, _, hc⟩ := h.r r c hr
      exact cells_all (fun p v (hx : RelK P _ _ _ p v) => RelC.okTok hx.1) hc
    · have := mem_dstIx (i := 0) (by rw [hes j hj]; exact ho) hd
      simpa using this
    · obtain ⟨q1, q2⟩ := storesOk_ok c2 i o t u v (by rw [hes i hi]; exact ho) hop
      rw [Nat.zero_add] at q1
      refine ⟨q2, ?_⟩
      obtain ⟨b, q3, q4, q5⟩ := storeOk_ok q1
      obtain ⟨q, o', q6, q7, q8⟩ := allocAt_ok q3
      rw [Nat.zero_add] at q6
      subst q6
      have hqm : b < m := by
        have := (List.getElem?_eq_some_iff.1 q7).1
        omega
      rw [hes b hqm] at q7
      refine ⟨b, hqm, by rw [nth_eq, q7]; exact q8, q4, fun i' hi' hb => q5 i' (by omega) hb⟩
    · exact List.all_eq_true.1 c1 o (List.mem_of_getElem? (by rw [hes i hi]; exact ho))
    · have := guardsIn_ok c5 i o j v ho hg
      rwa [Nat.zero_add] at this
  have hfin := C.any (Q := Q) (P := P) (Z := Z) hE hdo (fun i h1 h2 => tailAt_ok _ ops.toList.length i (by omega) (by simpa using h2)) (fun L X' a' w' hch hL hall hrel => ?_) m (U := List.range m) (listed := Array.replicate ops.size false) (L := []) (X := _) (a := a) (w := w.drew) (by simp) List.nodup_range (fun j => by simp) (by simp) (fun j => ?_) trivial (fun p hp => by simp at hp) h
  · have : m + (ops.size - m) = ops.size := by simp at hmle; omega
    rwa [this] at hfin
  · have hs : Sub (putDels (2 ^ m - 1) ds st0) (sig L st0) := by
      have hbit : ∀ b, Nat.testBit (2 ^ m - 1) b = true ↔ b < m := fun b => by rw [Nat.testBit_two_pow_sub_one]; simp
      refine C.sub hL hch k2 k3 k4 (Nat.le_refl _) (fun b hb => (hbit b).1 hb) (fun b hb => hall b ((hbit b).1 hb)) (fun j b h1 h2 => ?_) (fun j1 D1 c1 j2 D2 c2 r _ _ _ h4 _ => (hbit j2).2 (C.tok.lt (hL _ h4)))
      have := mk_low c4 j b h2
      have := (hbit j).1 h1
      exact (hbit b).2 (by omega)
    have hrel' := hrel.sub hs
    have := runOps_ok (ops := ops) (Q := Q) (tail := []) (kn := []) (P := P) _ False (fun _ _ => False) hE hrel' (fun j v h => by simp at h) (fun o ho => hdo o (List.mem_of_mem_drop ho)) k1 (fun hf => hf.elim) (fun hf => hf.elim) fun X2 st2 a2 w2 h2 hk2 _ _ => hk X2 st2 a2 w2 h2 hk2
    simpa using this
  · rw [getD_replicate_false]; simp
end
end Go.PgAM

/-
  Loops, jumps, all of a body.
-/
namespace Go.PgAM
open Go Go.RowKit
set_option linter.unusedVariables false
set_option linter.unusedSimpArgs false
variable {P : Program} {Z : At0} {X X' : Cx} {st st' : St} {a : Act} {w w' : World} {E : Env}

theorem all2_map {R S : PC → Value → Prop} (f : PC → PC) : ∀ {ps : List PC} {us : List Value}, (∀ p v, p ∈ ps → R p v → S (f p) v) → All2 R ps us → All2 S (ps.map f) us
  | [], [], _, _ => trivial
  | p :: ps, u :: us, hi, h => ⟨hi p u (by simp) h.1, all2_map f (fun p v hp => hi p v (by simp [hp])) h.2⟩
  | [], _ :: _, _, h => h.elim
  | _ :: _, [], _, h => h.elim
theorem RelP.mapC {bs bs' : List (Nat × Buf)} (f : PC → PC) (hi : ∀ p v, RelC P X bs w p v → RelC P X' bs' w (f p) v) {pv : PV} {v : Value} (h : RelP P X bs w pv v) : RelP P X' bs' w (pv.mapC f) v := by
  cases pv with
  | s p => exact hi p v h
  | agg ps => obtain ⟨cells, hv, hc⟩ := h; exact ⟨cells, hv, all2_map f (fun p v _ hx => ⟨hi p v hx.1, hx.2⟩) hc⟩
  | tup vs =>
    obtain ⟨us, hv, hc⟩ := h
    refine ⟨us, hv, ?_⟩
    refine All2.imp (fun v : Bool × List PC => (v.1, v.2.map f)) (fun x u hx => ?_) hc
    obtain ⟨ag, ps⟩ := x
    cases ag with
    | true => obtain ⟨cells, hu, hc⟩ := hx; exact ⟨cells, hu, all2_map f (fun p v _ hx => ⟨hi p v hx.1, hx.2⟩) hc⟩
    | false => exact all2_map (R := RelK P X bs w) (S := RelK P X' bs' w) f (fun p v _ hx => ⟨hi p v hx.1, hx.2⟩) hx
theorem RelP.mapCD {bs bs' : List (Nat × Buf)} (f : PC → PC) (g : PC → Bool) (hi : ∀ p v, RelC P X bs w p v → g p = true → RelC P X' bs' w (f p) v) {pv : PV} {v : Value} (h : RelP P X bs w pv v) (hg : PV.allC g pv = true) : RelP P X' bs' w (pv.mapC f) v := by
  cases pv with
  | s p => exact hi p v h hg
  | agg ps => obtain ⟨cells, hv, hc⟩ := h; exact ⟨cells, hv, all2_map f (fun p v hm hx => ⟨hi p v hx.1 (List.all_eq_true.1 hg p hm), hx.2⟩) hc⟩
  | tup vs =>
    obtain ⟨us, hv, hc⟩ := h
    refine ⟨us, hv, ?_⟩
    have key : ∀ {vs : List (Bool × List PC)} {us : List Value}, All2 (RelTC P X bs w) vs us → (vs.all fun v => v.2.all g) = true → All2 (RelTC P X' bs' w) (vs.map fun v => (v.1, v.2.map f)) us := by
      intro vs
      induction vs with
      | nil => intro us h _; cases us with
        | nil => trivial
        | cons u us => exact h.elim
      | cons v vs ih =>
        intro us h hg
        cases us with
        | nil => exact h.elim
        | cons u us =>
          simp only [List.all_cons, Bool.and_eq_true] at hg
          refine ⟨?_, ih h.2 hg.2⟩
          have hx := h.1
          obtain ⟨ag, ps⟩ := v
          cases ag with
          | true => obtain ⟨cells, hu, hc⟩ := hx; exact ⟨cells, hu, all2_map f (fun p v hm hx => ⟨hi p v hx.1 (List.all_eq_true.1 hg.1 p hm), hx.2⟩) hc⟩
          | false => exact all2_map (R := RelK P X bs w) (S := RelK P X' bs' w) f (fun p v hm hx => ⟨hi p v hx.1 (List.all_eq_true.1 hg.1 p hm), hx.2⟩) hx
    exact key hc hg

/-- A buffer gets another number. -/
theorem Rel.retok (h : Rel P Z X st a w) {s t : Nat} (hne : s ≠ t) : ∃ X', Rel P Z X' (st.retok s t) a w := by
  unfold St.retok
  split
  · exact ⟨X, h⟩
  · rename_i B hB
    have g := h.kill (PC.atTok t)
    have hl : ∀ n, look (Go.PgAM.put (dropTok s (st.kill (PC.atTok t)).b) t B) n = if n = t then some B else if n = s then none else look st.b n := by
      intro n
      rw [Go.PgAM.put, look_cons, look_dropTok, kill_b]
      by_cases e : t = n
      · subst e; simp
      · have e2 : ¬ n = t := fun x => e x.symm
        simp only [if_neg e, if_neg e2]
    have nd : ∀ q : PV, PV.allC (fun p => !PC.atTok t p) (q.mapD (PC.atTok t)) = true := fun q => mapD_allC rfl (fun p hp => by simp [hp]) q
    have hi : ∀ p v, RelC P X st.b w p v → (!PC.atTok t p) = true → RelC P { X with β := upd X.β t (X.β s) } (Go.PgAM.put (dropTok s (st.kill (PC.atTok t)).b) t B) w (p.retok s t) v := by
      intro p v hp hn
      simp only [Bool.not_eq_true'] at hn
      have tk : ∀ n, Nat.beq n t = false → n ≠ t := fun n h e => by subst e; simp at h
      have beqf : ∀ n, n ≠ s → Nat.beq n s = false := fun n h => by rw [Bool.eq_false_iff]; exact fun h' => h (Nat.eq_of_beq_eq_true h')
      cases p with
      | own n =>
        obtain ⟨B0, h1, h2⟩ := hp
        have hnt := tk n hn
        by_cases e : n = s
        · subst e
          rw [hB] at h1; cases h1
          simp only [PC.retok, Nat.beq_refl, cond_true]
          exact ⟨B, by rw [hl, if_pos rfl], by simpa only [SlAt, upd_same] using h2⟩
        · simp only [PC.retok, beqf n e, cond_false]
          exact ⟨B0, by rw [hl, if_neg hnt, if_neg e]; exact h1, by simpa only [SlAt, upd_ne _ _ hnt] using h2⟩
      | eptr n i o cs =>
        obtain ⟨B0, b, cap, h1, h2, h3⟩ := hp
        have hnt := tk n hn
        by_cases e : n = s
        · subst e
          rw [hB] at h1; cases h1
          simp only [PC.retok, Nat.beq_refl, cond_true]
          exact ⟨B, b, cap, by rw [hl, if_pos rfl], by simp only [upd_same]; exact h2, h3⟩
        · simp only [PC.retok, beqf n e, cond_false]
          exact ⟨B0, b, cap, by rw [hl, if_neg hnt, if_neg e]; exact h1, by simp only [upd_ne _ _ hnt]; exact h2, h3⟩
      | opre n k =>
        obtain ⟨B0, h1, h2, h3⟩ := hp
        have hnt := tk n hn
        by_cases e : n = s
        · subst e
          rw [hB] at h1; cases h1
          simp only [PC.retok, Nat.beq_refl, cond_true]
          exact ⟨B, by rw [hl, if_pos rfl], h2, by simpa only [SlAt, upd_same] using h3⟩
        · simp only [PC.retok, beqf n e, cond_false]
          exact ⟨B0, by rw [hl, if_neg hnt, if_neg e]; exact h1, h2, by simpa only [SlAt, upd_ne _ _ hnt] using h3⟩
      | osuf n k =>
        obtain ⟨B0, h1, h2, h3⟩ := hp
        have hnt := tk n hn
        by_cases e : n = s
        · subst e
          rw [hB] at h1; cases h1
          simp only [PC.retok, Nat.beq_refl, cond_true]
          exact ⟨B, by rw [hl, if_pos rfl], h2, by simpa only [upd_same] using h3⟩
        · simp only [PC.retok, beqf n e, cond_false]
          exact ⟨B0, by rw [hl, if_neg hnt, if_neg e]; exact h1, h2, by simpa only [upd_ne _ _ hnt] using h3⟩
      | d c => exact hp
      | loc r o => exact hp
      | sref cs => exact hp
      | fn f cs => exact hp
      | undef => exact hp
      | dead => trivial
    have hrow : ∀ r c, St.row { t := (st.kill (PC.atTok t)).t.map fun p => (p.1, p.2.mapC (PC.retok s t)), r := (st.kill (PC.atTok t)).r.map fun p => (p.1, p.2.map (List.map (PC.retok s t))), b := Go.PgAM.put (dropTok s (st.kill (PC.atTok t)).b) t B } r = some c →
        ∃ c', (st.kill (PC.atTok t)).row r = some c' ∧ c = c'.map (PC.retok s t) := by
      intro r c hr
      unfold St.row at hr
      simp only at hr
      rw [look_map (fun o : Option (List PC) => o.map (List.map (PC.retok s t)))] at hr
      unfold St.row
      cases e : look (st.kill (PC.atTok t)).r r with
      | none => rw [e] at hr; cases hr
      | some o =>
        rw [e] at hr
        cases o with
        | none => cases hr
        | some c' => cases hr; exact ⟨c', rfl, rfl⟩
    have hbuf : ∀ n B', look (Go.PgAM.put (dropTok s (st.kill (PC.atTok t)).b) t B) n = some B' → (n = t ∧ B' = B) ∨ (n ≠ t ∧ n ≠ s ∧ look st.b n = some B') := by
      intro n B' hn
      rw [hl] at hn
      by_cases e : n = t
      · rw [if_pos e] at hn; cases hn; exact .inl ⟨e, rfl⟩
      · rw [if_neg e] at hn
        by_cases e2 : n = s
        · rw [if_pos e2] at hn; cases hn
        · rw [if_neg e2] at hn; exact .inr ⟨e, e2, hn⟩
    refine ⟨{ X with β := upd X.β t (X.β s) }, { O := h.O, evo := h.evo, nt := h.nt, defers := h.defers, t := fun n pv hn => ?_, r := fun r c hr => ?_, b := fun n B' hn => ?_, rr := fun r r' c c' h1 h2 => ?_, rb := fun r c n B' b cap h1 h2 h3 => ?_, bb := fun n n' B1 B2 b cap b' cap' h1 h2 h3 h4 hnn => ?_ }⟩
    · rw [look_map] at hn
      obtain ⟨q, h1, rfl⟩ := Option.map_eq_some_iff.1 hn
      have h2 := g.t n q h1
      obtain ⟨q', _, rfl⟩ := kill_t_some h1
      exact RelP.mapCD _ _ hi h2 (nd q')
    · obtain ⟨c', h1, rfl⟩ := hrow r c hr
      obtain ⟨k1, k2, cs, el, k3, k4⟩ := g.r r c' h1
      obtain ⟨c2, _, rfl⟩ := kill_row_some h1
      have := nd (.agg c2)
      exact ⟨k1, k2, cs, el, k3, all2_map _ (fun p v hm hx => ⟨hi p v hx.1 (List.all_eq_true.1 this p hm), hx.2⟩) k4⟩
    · rcases hbuf n B' hn with ⟨rfl, rfl⟩ | ⟨h1, h2, h3⟩
      · have := h.b s B' hB
        simpa only [BufOk, upd_same] using this
      · have := h.b n B' h3
        simpa only [BufOk, upd_ne _ _ h1] using this
    · obtain ⟨c1, q1, _⟩ := hrow r c h1
      obtain ⟨c2, q2, _⟩ := hrow r' c' h2
      exact g.rr r r' c1 c2 q1 q2
    · obtain ⟨c1, q1, _⟩ := hrow r c h1
      rcases hbuf n B' h2 with ⟨rfl, rfl⟩ | ⟨k1, k2, k3⟩
      · simp only [upd_same] at h3; exact g.rb r c1 s B' b cap q1 hB h3
      · simp only [upd_ne _ _ k1] at h3; exact g.rb r c1 n B' b cap q1 k3 h3
    · rcases hbuf n B1 h1 with ⟨e1, e1'⟩ | ⟨k1, k2, k3⟩ <;> rcases hbuf n' B2 h2 with ⟨e2, e2'⟩ | ⟨m1, m2, m3⟩
      · exact absurd (e1.trans e2.symm) hnn
      · subst e1
        simp only [upd_same] at h3; simp only [upd_ne _ _ m1] at h4
        exact h.bb s n' B B2 b cap b' cap' hB m3 h3 h4 fun e => m2 e.symm
      · subst e2
        simp only [upd_same] at h4; simp only [upd_ne _ _ k1] at h3
        exact h.bb n s B1 B b cap b' cap' k3 hB h3 h4 k2
      · simp only [upd_ne _ _ k1] at h3; simp only [upd_ne _ _ m1] at h4
        exact h.bb n n' B1 B2 b cap b' cap' k3 m3 h3 h4 hnn
theorem Rel.retoks : ∀ (l : List Nat) {X : Cx} {st : St}, Rel P Z X st a w → ∃ X', Rel P Z X' (st.retoks l) a w
  | [], X, st, h => ⟨X, h⟩
  | n :: l, X, st, h => by
    simp only [St.retoks]
    split
    · rename_i t e
      cases e2 : Nat.beq t (500000 + n) with
      | true => exact Rel.retoks l h
      | false =>
        obtain ⟨X', h'⟩ := h.retok (s := t) (t := 500000 + n) fun e3 => by rw [e3] at e2; simp at e2
        exact Rel.retoks l h'
    · exact Rel.retoks l h
theorem look_pickT {K : Keep} {n : Nat} {pv : PV} : ∀ {l : List Nat}, look (pickT K st l) n = some pv → pv = cond (memb K.fz n) ((st.tmp n).frz st.b) (st.tmp n)
  | [], h => by cases h
  | m :: l, h => by
    simp only [pickT, look_cons] at h
    by_cases e : m = n
    · rw [if_pos e] at h; subst e; exact (Option.some.inj h).symm
    · rw [if_neg e] at h; exact look_pickT h
theorem look_pickR {K : Keep} {n : Nat} {o : Option (List PC)} : ∀ {l : List Nat}, look (pickR K st l) n = some o → o = cond (memb K.fz n) ((st.row n).map (List.map (PC.frz st.b))) (st.row n)
  | [], h => by cases h
  | m :: l, h => by
    simp only [pickR, look_cons] at h
    by_cases e : m = n
    · rw [if_pos e] at h; subst e; exact (Option.some.inj h).symm
    · rw [if_neg e] at h; exact look_pickR h
theorem look_pickB {bs : List (Nat × Buf)} {t : Nat} {B : Buf} : ∀ {l : List Nat}, look (pickB bs l) t = some B → look bs t = some B
  | [], h => by cases h
  | m :: l, h => by
    simp only [pickB] at h
    split at h
    · rename_i B' e
      rw [look_cons] at h
      by_cases e2 : m = t
      · rw [if_pos e2] at h; subst e2; rw [e]; exact h
      · rw [if_neg e2] at h; exact look_pickB h
    · exact look_pickB h
/-- A buffer that is wholly shown is a plain list. -/
theorem Rel.frz (h : Rel P Z X st a w) {p : PC} {v : Value} (hp : RelC P X st.b w p v) (hc : ∀ t, p = .own t → ∀ B b cap, look st.b t = some B → X.β t = some (b, cap) → B.xs.length * B.e.size ≤ X.F b) : RelC P X st.b w (p.frz st.b) v := by
  cases p with
  | own t =>
    obtain ⟨B, hB, hv⟩ := hp
    simp only [PC.frz, hB]
    exact h.snap (fun _ => Nat.le_refl _) hB hv fun b cap hb => hc t rfl B b cap hB hb
  | _ => exact hp
theorem Rel.restrict (h : Rel P Z X st a w) (K : Keep) : ∃ X', Rel P Z X' (st.restrict K) a w := by
  obtain ⟨X1, h1⟩ := h.retoks K.rn
  unfold St.restrict
  simp only
  generalize st.retoks K.rn = s0 at h1
  obtain ⟨F1, f1, f2, f3, f4⟩ := Rel.share (K.sh ++ K.fz.flatMap fun n => (s0.tmp n).toks s0 ++ rowToks s0 n) h1
  generalize hts : (K.sh ++ K.fz.flatMap fun n => (s0.tmp n).toks s0 ++ rowToks s0 n) = ts at f1 f2 f3 f4
  have hcov : ∀ t, t ∈ ts → ∀ B b cap, look (s0.share ts).b t = some B → X1.β t = some (b, cap) → B.xs.length * B.e.size ≤ F1 b := by
    intro t ht B b cap hB hb
    obtain ⟨x, hx⟩ := share_some hB
    exact f3 t { B with x := x } b cap ht hx hb
  have hmemT : ∀ n t, memb K.fz n = true → s0.tmp n = .s (.own t) → t ∈ ts := by
    intro n t hn e
    rw [← hts]
    refine List.mem_append.2 (.inr (List.mem_flatMap.2 ⟨n, memb_iff.1 hn, ?_⟩))
    rw [e]; simp [PV.toks, PC.toks]
  have hmemR : ∀ n t c, memb K.fz n = true → s0.row n = some c → PC.own t ∈ c → t ∈ ts := by
    intro n t c hn e hm
    rw [← hts]
    refine List.mem_append.2 (.inr (List.mem_flatMap.2 ⟨n, memb_iff.1 hn, List.mem_append.2 (.inr ?_)⟩))
    unfold rowToks
    rw [e]
    exact List.mem_flatMap.2 ⟨_, hm, by simp⟩
  have htmp : ∀ n, (s0.share ts).tmp n = s0.tmp n := fun n => by unfold St.tmp; rw [share_t]
  have hfz : ∀ p v, RelC P { X1 with F := F1 } (s0.share ts).b w p v → RelC P { X1 with F := F1 } (pickB (s0.share ts).b K.bs) w (p.mapD fun q => !PC.okTok (pickB (s0.share ts).b K.bs) q) v := by
    intro p v hp
    unfold PC.mapD
    cases e : PC.okTok (pickB (s0.share ts).b K.bs) p with
    | true =>
      have := hp.sub (bs' := pickB (s0.share ts).b K.bs) (fun t B => look_pickB) e
      simpa [e] using this
    | false => simp [e, RelC]
  refine ⟨{ X1 with F := F1 }, { O := f4.O, evo := f4.evo, nt := f4.nt, defers := f4.defers, t := fun n pv hn => ?_, r := fun r c hr => ?_, b := fun t B hB => f4.b t B (look_pickB hB), rr := ?_, rb := ?_, bb := fun t t' B B' b cap b' cap' q1 q2 => f4.bb t t' B B' b cap b' cap' (look_pickB q1) (look_pickB q2) }⟩
  · rw [look_map] at hn
    obtain ⟨q, k1, rfl⟩ := Option.map_eq_some_iff.1 hn
    have k2 := look_pickT k1
    have key : RelP P { X1 with F := F1 } (s0.share ts).b w q (a.tmps.getD n Go.undef) := by
      cases e : memb K.fz n with
      | false => rw [e] at k2; rw [k2]; exact tmp_ok f4 n
      | true =>
        rw [e] at k2
        simp only [cond_true] at k2
        have h2 := tmp_ok f4 n
        rw [k2]
        generalize hq : (s0.share ts).tmp n = pv at h2
        rw [htmp] at hq
        cases pv with
        | s p => exact f4.frz h2 fun t ht => hcov t (hmemT n t e (by rw [hq, ht]))
        | agg ps => exact h2
        | tup vs => exact h2
    have := RelP.mapC (X' := { X1 with F := F1 }) (bs' := pickB (s0.share ts).b K.bs) (PC.mapD fun q => !PC.okTok (pickB (s0.share ts).b K.bs) q) hfz key
    cases q <;> exact this
  · have hr' : ∃ c', (∃ c0, (s0.share ts).row r = some c0 ∧ c' = cond (memb K.fz r) (c0.map (PC.frz (s0.share ts).b)) c0) ∧ c = c'.map (PC.mapD fun q => !PC.okTok (pickB (s0.share ts).b K.bs) q) := by
      unfold St.row at hr
      simp only at hr
      rw [look_map (fun o : Option (List PC) => o.map (List.map (PC.mapD fun q => !PC.okTok (pickB (s0.share ts).b K.bs) q)))] at hr
      cases e : look (pickR K (s0.share ts) K.rs) r with
      | none => rw [e] at hr; cases hr
      | some o =>
        rw [e] at hr
        have k2 := look_pickR e
        cases e2 : (s0.share ts).row r with
        | none =>
          rw [e2] at k2
          have : o = none := by rw [k2]; cases memb K.fz r <;> rfl
          subst this; cases hr
        | some c0 =>
          rw [e2] at k2
          have : o = some (cond (memb K.fz r) (c0.map (PC.frz (s0.share ts).b)) c0) := by rw [k2]; cases memb K.fz r <;> rfl
          subst this
          cases hr
          exact ⟨_, ⟨c0, rfl, rfl⟩, rfl⟩
    obtain ⟨c', ⟨c0, q1, q2⟩, rfl⟩ := hr'
    obtain ⟨k1, k2, cs, el, k3, k4⟩ := f4.r r c0 q1
    have key : All2 (RelK P { X1 with F := F1 } (s0.share ts).b w) c' cs.toList := by
      cases e : memb K.fz r with
      | false => rw [e] at q2; rw [q2]; exact k4
      | true =>
        rw [e] at q2
        rw [q2]
        rw [share_row] at q1
        exact all2_map _ (fun p v hm hx => ⟨f4.frz hx.1 fun t ht => hcov t (hmemR r t c0 e q1 (by rw [← ht]; exact hm)), hx.2⟩) k4
    exact ⟨k1, k2, cs, el, k3, all2_map _ (fun p v hm hx => ⟨hfz p v hx.1, hx.2⟩) key⟩
  · intro r r' c c' q1 q2
    obtain ⟨c1, q1⟩ := pick_row q1
    obtain ⟨c2, q2⟩ := pick_row q2
    exact f4.rr r r' c1 c2 q1 q2
  · intro r c t B b cap q1 q2
    obtain ⟨c1, q1⟩ := pick_row q1
    exact f4.rb r c1 t B b cap q1 (look_pickB q2)
where
  pick_row {K : Keep} {s : St} {f : PC → Bool} {tt : List (Nat × PV)} {bs : List (Nat × Buf)} {r : Nat} {c : List PC} (hr : St.row ⟨tt, (pickR K s K.rs).map fun p => (p.1, p.2.map (List.map (PC.mapD f))), bs⟩ r = some c) : ∃ c1, s.row r = some c1 := by
    unfold St.row at hr
    simp only at hr
    rw [look_map (fun o : Option (List PC) => o.map (List.map (PC.mapD f)))] at hr
    cases e : look (pickR K s K.rs) r with
    | none => rw [e] at hr; cases hr
    | some o =>
      rw [e] at hr
      have k2 := look_pickR e
      cases e2 : s.row r with
      | none =>
        rw [e2] at k2
        have : o = none := by rw [k2]; cases memb K.fz r <;> rfl
        subst this; cases hr
      | some c0 => exact ⟨c0, rfl⟩

def AX.exit' : AX → Exit
  | .normal => .normal
  | .exit id => .exit id
  | .goto l => .goto l
  | .ret => .ret

def Code.hops (P : Program) (rest : Code) (l : Nat) (Q : Exit → Act → World → Prop) : Nat → Act → World → Prop
  | 0, _, _ => False
  | n + 1, a, w => rest.wp P (Exit.jump l (Code.hops P rest l Q n) Q) a w
theorem least (p : Nat → Prop) : ∀ n, p n → ∃ m, p m ∧ ∀ k, k < m → ¬ p k := by
  intro n
  induction n using Nat.strongRecOn with
  | _ n ih =>
    intro hn
    rcases Classical.em (∃ k, k < n ∧ p k) with ⟨k, h1, h2⟩ | hne
    · exact ih k h1 h2
    · exact ⟨n, hn, fun k hk hp => hne ⟨k, hk, hp⟩⟩
open Classical in
theorem wp_scope_hops {Q : Exit → Act → World → Prop} {c rest : Code} (l : Nat) (hf : findLabel c l = some rest) (first : c.wp P (Exit.jump l (fun a w => ∃ n, Code.hops P rest l Q n a w) Q) a w) : (Code.scope c).wp P Q a w := by
  let μ : Act → World → Nat := fun a w => if h : ∃ n, Code.hops P rest l Q n a w then (Classical.choose (least (fun n => Code.hops P rest l Q n a w) (Classical.choose h) (Classical.choose_spec h))) else 0
  refine wp_scope_jumps l _ μ hf first fun a w hJ => ?_
  have hm : Code.hops P rest l Q (μ a w) a w ∧ ∀ k, k < μ a w → ¬ Code.hops P rest l Q k a w := by
    simp only [μ]
    rw [dif_pos hJ]
    exact Classical.choose_spec (least (fun n => Code.hops P rest l Q n a w) (Classical.choose hJ) (Classical.choose_spec hJ))
  cases e : μ a w with
  | zero => rw [e] at hm; exact hm.1.elim
  | succ n =>
    rw [e] at hm
    refine wp_mono (show rest.wp P (Exit.jump l (Code.hops P rest l Q n) Q) a w from hm.1) fun e' a' w' hq => ?_
    cases e' with
    | goto l' =>
      obtain ⟨h1, h2⟩ := hq
      refine ⟨h1, ⟨n, h2⟩, ?_⟩
      have hJ' : ∃ n, Code.hops P rest l Q n a' w' := ⟨n, h2⟩
      have hm' : ∀ k, k < μ a' w' → ¬ Code.hops P rest l Q k a' w' := by
        simp only [μ]
        rw [dif_pos hJ']
        exact (Classical.choose_spec (least (fun n => Code.hops P rest l Q n a' w') (Classical.choose hJ') (Classical.choose_spec hJ'))).2
      rcases Nat.lt_or_ge n (μ a' w') with h3 | h3
      · exact absurd h2 (hm' n h3)
      · omega
    | _ => exact hq

theorem aexec_ok (hE : EnvOk P E Z) (hm : P.follows .mixedOrders = true) : ∀ (n : Nat) (c : Code), SizeOf.sizeOf c < n → ∀ {R : Type} {st : St} {X : Cx} {a : Act} {w : World} {k : AX → St → Option R} {y : R} {Q : Exit → Act → World → Prop},
    Rel P Z X st a w → aexec E c st k = some y → (∀ e X' st' a' w', Rel P Z X' st' a' w' → k e st' = some y → Q e.exit' a' w') → c.wp P Q a w
  | 0, c, hn, R, st, X, a, w, k, y, Q, h, hr, hk => absurd hn (Nat.not_lt_zero _)
  | n + 1, c, hn, R, st, X, a, w, k, y, Q, h, hr, hk => by
    have ih := aexec_ok hE hm n
    unfold aexec at hr
    split at hr
    · exact wp_skip (hk .normal X _ a w h hr)
    · rename_i st_ k_ id ops
      obtain ⟨hd, hr⟩ := cond_some hr
      have := runOps_ok (ops := ops) (Q := Q) (tail := []) (kn := []) (P := P) _ False (fun _ _ => False) hE h (fun j v h => by simp at h) (fun o ho => List.all_eq_true.1 hd o ho) hr (fun hf => hf.elim) (fun hf => hf.elim) fun X2 st2 a2 w2 h2 hk2 _ _ => hk .normal X2 st2 a2 w2 h2 hk2
      exact wp_region_list (by simpa using this)
    · rename_i st_ k_ id ops
      obtain ⟨hd, hr⟩ := cond_some hr
      exact runDraw_ok hE hm (fun o ho => List.all_eq_true.1 hd o ho) h hr fun X2 st2 a2 w2 h2 hk2 => hk .normal X2 st2 a2 w2 h2 hk2
    · rename_i st_ k_ x z
      simp only [Code.seq.sizeOf_spec] at hn
      refine wp_seq (ih x (by omega) h hr fun e X' st' a' w' h' hk' => ?_)
      cases e with
      | normal => exact ih z (by omega) h' hk' hk
      | exit id => exact hk (.exit id) X' st' a' w' h' hk'
      | goto l => exact hk (.goto l) X' st' a' w' h' hk'
      | ret => exact hk .ret X' st' a' w' h' hk'
    · rename_i st_ k_ c x z
      simp only [Code.cond.sizeOf_spec] at hn
      split at hr
      · rename_i t e
        obtain ⟨pv, e1, e2⟩ := bind_some2 e
        have hv := asBool_ok e2 (opv_ok h e1)
        refine wp_cond hv ?_
        cases t with
        | true => exact ih x (by omega) h hr hk
        | false => exact ih z (by omega) h hr hk
      · cases hr
    · rename_i st_ k_ id c
      simp only [Code.block.sizeOf_spec] at hn
      refine wp_block (ih c (by omega) h hr fun e X' st' a' w' h' hk' => ?_)
      cases e with
      | normal => exact hk .normal X' st' a' w' h' hk'
      | exit id' =>
        show if id' = id then Q .normal a' w' else Q (.exit id') a' w'
        simp only at hk'
        by_cases e : id' = id
        · subst e
          simp only [Nat.beq_refl, cond_true] at hk'
          rw [if_pos rfl]; exact hk .normal X' st' a' w' h' hk'
        · have : Nat.beq id' id = false := by rw [Bool.eq_false_iff]; exact fun h' => e (Nat.eq_of_beq_eq_true h')
          simp only [this, cond_false] at hk'
          rw [if_neg e]; exact hk (.exit id') X' st' a' w' h' hk'
      | goto l => exact hk (.goto l) X' st' a' w' h' hk'
      | ret => exact hk .ret X' st' a' w' h' hk'
    · rename_i st_ k_ c
      simp only [Code.loop.sizeOf_spec] at hn
      generalize E.keepOf (firstRegion c) = K at hr
      have rounds : ∀ (m : Nat) {st : St} {X : Cx} {a : Act} {w : World}, Rel P Z X st a w → loopN (aexec E c) K m st k = some y → Code.rounds P c Q m a w := by
        intro m
        induction m with
        | zero => intro st X a w h hr; cases hr
        | succ m ihm =>
          intro st X a w h hr
          simp only [loopN] at hr
          refine ih c (by omega) h hr fun e X' st' a' w' h' hk' => ?_
          cases e with
          | normal =>
            obtain ⟨X2, h2⟩ := h'.restrict K
            exact ihm h2 hk'
          | exit id => exact hk (.exit id) X' st' a' w' h' hk'
          | goto l => exact hk (.goto l) X' st' a' w' h' hk'
          | ret => exact hk .ret X' st' a' w' h' hk'
      obtain ⟨X2, h2⟩ := h.restrict K
      exact wp_loop_rounds _ (rounds _ h2 hr)
    · rename_i st_ k_ x l z
      simp only [Code.scope.sizeOf_spec, Code.seq.sizeOf_spec, Code.label.sizeOf_spec] at hn
      obtain ⟨hl, hr⟩ := cond_some hr
      have hl : findLabel x l = none := Option.isNone_iff_eq_none.1 hl
      generalize E.keepOf (10000 + l) = K at hr
      have hf : findLabel (.seq x (.seq (.label l) z)) l = some (.seq .skip z) := by
        simp [findLabel, hl]
      have zwp : ∀ (m : Nat) {st : St} {X : Cx} {a : Act} {w : World}, Rel P Z X st a w → gotoN (aexec E z) l K (m + 1) st k = some y → (∀ {st : St} {X : Cx} {a : Act} {w : World}, Rel P Z X st a w → gotoN (aexec E z) l K m st k = some y → Code.hops P (.seq .skip z) l Q m a w) →
          z.wp P (Exit.jump l (Code.hops P (.seq .skip z) l Q m) Q) a w := by
        intro m st X a w h hr hm'
        simp only [gotoN] at hr
        refine ih z (by omega) h hr fun e X' st' a' w' h' hk' => ?_
        cases e with
        | normal => exact hk .normal X' st' a' w' h' hk'
        | exit id => exact hk (.exit id) X' st' a' w' h' hk'
        | ret => exact hk .ret X' st' a' w' h' hk'
        | goto l' =>
          simp only at hk'
          obtain ⟨e1, e2⟩ := cond_some hk'
          have e1 := Nat.eq_of_beq_eq_true e1
          obtain ⟨X2, h2⟩ := h'.restrict K
          exact ⟨e1, hm' h2 e2⟩
      have hops : ∀ (m : Nat) {st : St} {X : Cx} {a : Act} {w : World}, Rel P Z X st a w → gotoN (aexec E z) l K m st k = some y → Code.hops P (.seq .skip z) l Q m a w := by
        intro m
        induction m with
        | zero => intro st X a w h hr; cases hr
        | succ m ihm =>
          intro st X a w h hr
          exact wp_seq (wp_skip (zwp m h hr ihm))
      refine wp_scope_hops l hf (wp_seq (ih x (by omega) h hr fun e X' st' a' w' h' hk' => ?_))
      cases e with
      | normal =>
        obtain ⟨X2, h2⟩ := h'.restrict K
        simp only at hk'
        refine wp_seq (wp_label ?_)
        show z.wp P _ a' w'
        cases hN : E.N with
        | zero => rw [hN] at hk'; cases hk'
        | succ m =>
          rw [hN] at hk'
          refine wp_mono (zwp m h2 hk' (hops m)) fun e' a2 w2 hq => ?_
          cases e' with
          | goto l' => exact ⟨hq.1, m, hq.2⟩
          | _ => exact hq
      | exit id => exact hk (.exit id) X' st' a' w' h' hk'
      | goto l' => cases hk'
      | ret => exact hk .ret X' st' a' w' h' hk'
    · rename_i st_ k_ id
      exact wp_exit (hk (.exit id) X _ a w h hr)
    · rename_i st_ k_ l
      exact wp_goto (hk (.goto l) X _ a w h hr)
    · exact wp_ret (hk .ret X _ a w h hr)
    · cases hr
end Go.PgAM

/-
  A function that the machine has run keeps its contract.
-/
namespace Go.PgAM
open Go Go.RowKit
set_option linter.unusedVariables false
set_option linter.unusedSimpArgs false
variable {P : Program} {Z : At0} {X X' : Cx} {st st' : St} {a : Act} {w w' : World} {E : Env}

theorem blk_apart : ∀ {qs : List (Option (Nat × Nat))}, (blk qs).Nodup → ∀ {j j' b c b' c' : Nat}, qs[j]? = some (some (b, c)) → qs[j']? = some (some (b', c')) → j ≠ j' → b ≠ b'
  | [], _, j, j', b, c, b', c', h, _, _ => by simp at h
  | q :: qs, hn, j, j', b, c, b', c', h1, h2, hne => by
    have mem : ∀ {j b c}, qs[j]? = some (some (b, c)) → b ∈ blk qs := fun h => mem_blk.2 ⟨_, List.mem_of_getElem? h⟩
    cases j with
    | zero =>
      simp at h1; subst h1
      cases j' with
      | zero => exact absurd rfl hne
      | succ j' =>
        simp only [blk, List.nodup_cons] at hn
        intro e; subst e
        exact hn.1 (mem (by simpa using h2))
    | succ j =>
      cases j' with
      | zero =>
        simp at h2; subst h2
        simp only [blk, List.nodup_cons] at hn
        intro e; subst e
        exact hn.1 (mem (by simpa using h1))
      | succ j' =>
        have hn' : (blk qs).Nodup := by
          cases q with
          | none => exact hn
          | some q => simp only [blk, List.nodup_cons] at hn; exact hn.2
        exact blk_apart hn' (by simpa using h1) (by simpa using h2) (by omega)

theorem enc_rel {bs : List (Nat × Buf)} {v : VT} {x : v.I} {u : Value} {g : Nat → Option Value} (hw : Whole v u g) (hr : RepV P v X.O X.F w x g) : RelP P X bs w (encVT v x) u := by
  cases v with
  | sc s =>
    simp only [Whole] at hw
    subst hw
    simp only [RepV] at hr
    obtain ⟨u', hu, hs⟩ := hr
    cases hu
    exact hs
  | ag cs =>
    obtain ⟨cells, rfl, hsz, rfl⟩ := hw
    simp only [RepV] at hr
    exact ⟨cells, rfl, RepV.dcells rfl rfl hsz hr⟩
theorem initT_ok {bs : List (Nat × Buf)} : ∀ {as : List AS} {i : Nat} {z : ASs.I as} {us : List Value} {qs : List (Option (Nat × Nat))}, ArgsOk P X.O X.F w as z us qs → (∀ j q, qs[j]? = some q → X.β (i + j) = q) → (∀ b, b ∈ blk qs → ¬ X.O b) → (∀ t B, look (initT i as z).2 t = some B → look bs t = some B) →
    us.length = as.length ∧ (∀ n pv, look (initT i as z).1 n = some pv → ∃ j u, n = i + j ∧ us[j]? = some u ∧ RelP P X bs w pv u) ∧
      (∀ t B, look (initT i as z).2 t = some B → ∃ j, t = i + j ∧ qs[j]? = some (X.β t) ∧ BufOk P X w t B)
  | [], i, z, us, qs, h, hβ, hO, hb => by
    obtain ⟨rfl, rfl⟩ := h
    exact ⟨rfl, (fun n pv h => by cases h), (fun t B h => by cases h)⟩
  | c :: as, i, z, us, qs, h, hβ, hO, hb => by
    obtain ⟨u, us', q, qs', rfl, rfl, h1, h2⟩ := h
    have hq0 : X.β i = q := by simpa using hβ 0 q (by simp)
    have tailβ : ∀ j q', qs'[j]? = some q' → X.β (i + 1 + j) = q' := fun j q' hq => by
      have := hβ (j + 1) q' (by simpa using hq)
      rwa [show i + (j + 1) = i + 1 + j by omega] at this
    have tailO : ∀ b, b ∈ blk qs' → ¬ X.O b := fun b hbm => hO b (by
      cases q with
      | none => exact hbm
      | some q => simp [blk, hbm])
    have up1 : ∀ {n pv}, (∃ j u', n = i + 1 + j ∧ us'[j]? = some u' ∧ RelP P X bs w pv u') → ∃ j u', n = i + j ∧ (u :: us')[j]? = some u' ∧ RelP P X bs w pv u' := fun ⟨j, u', e1, e2, e3⟩ => ⟨j + 1, u', by omega, by simpa using e2, e3⟩
    have up2 : ∀ {t B}, (∃ j, t = i + 1 + j ∧ qs'[j]? = some (X.β t) ∧ BufOk P X w t B) → ∃ j, t = i + j ∧ (q :: qs')[j]? = some (X.β t) ∧ BufOk P X w t B := fun ⟨j, e1, e2, e3⟩ => ⟨j + 1, by omega, by simpa using e2, e3⟩
    cases c with
    | d v =>
      obtain ⟨hq, g, hw, hr⟩ := h1
      obtain ⟨k1, k2, k3⟩ := initT_ok (i := i + 1) (bs := bs) h2 tailβ tailO fun t B h => hb t B h
      refine ⟨by simp [k1], fun n pv hn => ?_, fun t B hB => up2 (k3 t B hB)⟩
      simp only [initT, look_cons] at hn
      by_cases e : i = n
      · rw [if_pos e] at hn; cases hn
        exact ⟨0, u, by omega, by simp, enc_rel hw hr⟩
      · rw [if_neg e] at hn; exact up1 (k2 n pv hn)
    | ref cs =>
      obtain ⟨hq, hr⟩ := h1
      obtain ⟨k1, k2, k3⟩ := initT_ok (i := i + 1) (bs := bs) h2 tailβ tailO fun t B h => hb t B h
      refine ⟨by simp [k1], fun n pv hn => ?_, fun t B hB => up2 (k3 t B hB)⟩
      simp only [initT, look_cons] at hn
      by_cases e : i = n
      · rw [if_pos e] at hn; cases hn
        exact ⟨0, u, by omega, by simp, hr⟩
      · rw [if_neg e] at hn; exact up1 (k2 n pv hn)
    | mv e =>
      have hlt : ∀ {as : List AS} {i : Nat} {z : ASs.I as} {t : Nat} {B : Buf}, look (initT i as z).2 t = some B → i ≤ t := by
        intro as
        induction as with
        | nil => intro i z t B h; cases h
        | cons c as ih =>
          intro i z t B h
          cases c with
          | d v => have := ih (show look (initT (i + 1) as z.2).2 t = some B from h); omega
          | ref cs => have := ih (show look (initT (i + 1) as z.2).2 t = some B from h); omega
          | mv e =>
            simp only [initT, look_cons] at h
            by_cases e2 : i = t
            · omega
            · rw [if_neg e2] at h; have := ih h; omega
      obtain ⟨k1, k2, k3⟩ := initT_ok (i := i + 1) (bs := bs) h2 tailβ tailO fun t B h => hb t B (by
        have := hlt h
        simp only [initT, look_cons]
        rw [if_neg (by omega)]; exact h)
      have hbi : look bs i = some ⟨true, e, z.1⟩ := hb i _ (by simp [initT, look_cons])
      have hbv : BufVal P X.O X.F w e z.1 u q := h1
      have hbuf : SlAt X.β i (List.length (α := e.I) z.1) u ∧ BufOk P X w i ⟨true, e, z.1⟩ := by
        cases q with
        | none =>
          obtain ⟨h0, a', hu⟩ := hbv
          refine ⟨by simp only [SlAt, hq0]; exact ⟨h0, a', hu⟩, by simp only [BufOk, hq0]; exact h0⟩
        | some q =>
          obtain ⟨b, cap⟩ := q
          obtain ⟨hu, hF, hle, cs, el, hh, hs, hel⟩ := hbv
          exact ⟨by simp only [SlAt, hq0]; exact hu, by simp only [BufOk, hq0]; exact ⟨hO b (by simp [blk]), by simp [hF], hle, cs, el, hh, hs, hel⟩⟩
      refine ⟨by simp [k1], fun n pv hn => ?_, fun t B hB => ?_⟩
      · simp only [initT, look_cons] at hn
        by_cases e2 : i = n
        · rw [if_pos e2] at hn; cases hn
          exact ⟨0, u, by omega, by simp, ⟨_, hbi, hbuf.1⟩⟩
        · rw [if_neg e2] at hn; exact up1 (k2 n pv hn)
      · simp only [initT, look_cons] at hB
        by_cases e2 : i = t
        · subst e2
          rw [if_pos rfl] at hB; cases hB
          exact ⟨0, by omega, by simp [hq0], hbuf.2⟩
        · rw [if_neg e2] at hB; exact up2 (k3 t B hB)

/-- Results, from the machine's state. -/
theorem resPVs_ok (hE : EnvOk P E Z) (h : Rel P Z X st a w) (f : ResultVar → Sem Value) (hf1 : ∀ t, f (.tmp t) = pure (a.tmps.getD t Go.undef)) (hf2 : ∀ c t, f (.cell c t) = do loadVar t (← asAddr (a.tmps.getD c Go.undef))) : ∀ {rs : List ResultVar} {vs : List PV}, resPVs E st rs = some vs →
    ∃ us, (rs.mapM f).run P w = .ok us w ∧ All2 (RelP P X st.b w) vs us
  | [], vs, e => by cases e; exact ⟨[], by simp, trivial⟩
  | r :: rs, vs, e => by
    simp only [resPVs] at e
    split at e
    · rename_i v vs' e1 e2
      have e := Option.some.inj e
      subst e
      obtain ⟨us, k1, k2⟩ := resPVs_ok hE h f hf1 hf2 e2
      have key : ∃ u, (f r).run P w = .ok u w ∧ RelP P X st.b w v u := by
        cases r with
        | tmp t =>
          have e1 := Option.some.inj e1
          subst e1
          exact ⟨_, by rw [hf1]; rfl, tmp_ok h t⟩
        | cell t T =>
          simp only at e1
          split at e1
          · rename_i ti r off e3 e4
            split at e1
            · rename_i cs e5
              obtain ⟨_, _, cs', el, hh, ha⟩ := h.r r cs e5
              have hp := tmp_ok h t
              rw [e4] at hp
              have hp : a.tmps.getD t Go.undef = .pointer (some ⟨X.ρ r, off, none⟩) := hp
              obtain ⟨u, q1, q2⟩ := run_loadVar (tyB_size (hE.tyOf e3)) (All2.drop off ha) (row_lie hh) e1
              refine ⟨u, ?_, q2⟩
              rw [hf2, hp]
              simp [asAddr, q1]
            · cases e1
          · cases e1
      obtain ⟨u, q1, q2⟩ := key
      refine ⟨u :: us, ?_, q2, k2⟩
      rw [List.mapM_cons]
      simp only [Sem.run_bind]
      rw [q1]
      simp only [Result.andThen_ok, Sem.run_bind]
      rw [k1]
      simp
    · cases e
theorem decRess_cons {C : Tab} {r r' : RS} {rs : List RS} {v : PV} {vs : List PV} {y : r.I × RSs.I (r' :: rs)} (h : decRess C st (r :: r' :: rs) (v :: vs) = some y) : decRes C st r v = some y.1 ∧ decRess C st (r' :: rs) vs = some y.2 := by
  have h : (match decRes C st r v, decRess C st (r' :: rs) vs with
    | some x, some y => some (x, y)
    | _, _ => none) = some y := h
  split at h
  · rename_i x z h1 h2
    have h := Option.some.inj h
    subst h; exact ⟨h1, h2⟩
  · cases h
def resQ (β : Nat → Option (Nat × Nat)) : RS → PV → Option (Nat × Nat)
  | .fresh _, .s (.own tok) => β tok
  | _, _ => none
def resQs (β : Nat → Option (Nat × Nat)) : List RS → List PV → List (Option (Nat × Nat))
  | r :: rs, v :: vs => resQ β r v :: resQs β rs vs
  | _, _ => []
theorem resQs_mem {β : Nat → Option (Nat × Nat)} {q : Nat × Nat} : ∀ {rs : List RS} {vs : List PV}, some q ∈ resQs β rs vs → ∃ tok, tok ∈ resNew rs vs ∧ β tok = some q
  | [], vs, h => by cases vs <;> simp [resQs] at h
  | _ :: _, [], h => by simp [resQs] at h
  | r :: rs, v :: vs, h => by
    simp only [resQs, List.mem_cons] at h
    have tl : ∀ {tok}, tok ∈ resNew rs vs → tok ∈ resNew (r :: rs) (v :: vs) := by
      intro tok ht
      unfold resNew
      split
      · rename_i e1 e2
        cases e1; cases e2
        simp [ht]
      · rename_i e1 e2
        cases e1; cases e2
        exact ht
      · rename_i hn1 hn2
        exact absurd rfl (hn2 r rs v vs rfl)
    rcases h with h | h
    · unfold resQ at h
      split at h
      · rename_i e tok
        exact ⟨tok, by simp [resNew], h.symm⟩
      · cases h
    · obtain ⟨tok, h1, h2⟩ := resQs_mem h
      exact ⟨tok, tl h1, h2⟩
theorem decRess_new {C : Tab} : ∀ {rs : List RS} {vs : List PV} {y : RSs.I rs}, decRess C st rs vs = some y → ∀ t, t ∈ resNew rs vs → ∃ B, look st.b t = some B ∧ B.x = true := by
  have one : ∀ {r : RS} {v : PV} {y : r.I}, decRes C st r v = some y → ∀ t, t ∈ resNew [r] [v] → ∃ B, look st.b t = some B ∧ B.x = true := by
    intro r v y h t ht
    unfold resNew at ht
    split at ht
    · rename_i e _ tok _ e1 e2
      cases e1; cases e2
      simp [resNew] at ht
      subst ht
      simp only [decRes] at h
      obtain ⟨_, h⟩ := cond_some h
      cases hB : look st.b t with
      | none => rw [hB] at h; cases h
      | some B =>
        obtain ⟨x, e', xs⟩ := B
        rw [hB] at h
        cases x with
        | true => exact ⟨_, rfl, rfl⟩
        | false => cases h
    · rename_i e1 e2; cases e1; cases e2; simp [resNew] at ht
    · simp at ht
  intro rs
  induction rs with
  | nil => intro vs y h t ht; simp [resNew] at ht
  | cons r rs ih =>
    intro vs y h t ht
    cases vs with
    | nil => cases rs <;> cases h
    | cons v vs =>
      have split1 : t ∈ resNew [r] [v] ∨ t ∈ resNew rs vs := by
        unfold resNew at ht
        split at ht
        · rename_i e1 e2
          cases e1; cases e2
          rcases List.mem_cons.1 ht with rfl | ht
          · left; simp [resNew]
          · exact .inr ht
        · rename_i e1 e2; cases e1; cases e2; exact .inr ht
        · simp at ht
      cases rs with
      | nil =>
        cases vs with
        | nil =>
          rcases split1 with h1 | h1
          · exact one (show decRes C st r v = some y from h) t h1
          · simp [resNew] at h1
        | cons _ _ => cases h
      | cons r' rs =>
        obtain ⟨h1, h2⟩ := decRess_cons h
        rcases split1 with h3 | h3
        · exact one h1 t h3
        · exact ih h2 t h3
theorem resQs_nodup {β : Nat → Option (Nat × Nat)} : ∀ {rs : List RS} {vs : List PV}, (resNew rs vs).Nodup →
    (∀ t t' b cap cap', t ∈ resNew rs vs → t' ∈ resNew rs vs → β t = some (b, cap) → β t' = some (b, cap') → t = t') → (blk (resQs β rs vs)).Nodup
  | [], vs, h, hi => by cases vs <;> simp [resQs, blk]
  | _ :: _, [], h, hi => by simp [resQs, blk]
  | r :: rs, v :: vs, h, hi => by
    have other : resNew (r :: rs) (v :: vs) = resNew rs vs → resQ β r v = none → (blk (resQs β (r :: rs) (v :: vs))).Nodup := by
      intro e1 e2
      rw [e1] at h hi
      simp only [resQs, e2, blk]
      exact resQs_nodup h hi
    cases r with
    | d t => exact other rfl rfl
    | fresh e =>
      cases v with
      | agg ps => exact other rfl rfl
      | tup vs => exact other rfl rfl
      | s p =>
        cases p with
        | own tok =>
          have e1 : resNew (.fresh e :: rs) (.s (.own tok) :: vs) = tok :: resNew rs vs := rfl
          rw [e1] at h hi
          simp only [List.nodup_cons] at h
          have ih := resQs_nodup h.2 fun t t' b cap cap' h1 h2 => hi t t' b cap cap' (by simp [h1]) (by simp [h2])
          show (blk (β tok :: resQs β rs vs)).Nodup
          cases e2 : β tok with
          | none => exact ih
          | some q =>
            obtain ⟨b, cap⟩ := q
            simp only [blk, List.nodup_cons]
            refine ⟨fun hm => ?_, ih⟩
            obtain ⟨cap', hm⟩ := mem_blk.1 hm
            obtain ⟨t', h1, h2⟩ := resQs_mem hm
            have := hi tok t' b cap cap' (by simp) (by simp [h1]) e2 h2
            subst this; exact h.1 h1
        | _ => exact other rfl rfl
theorem decRess_ok (hC : SoundTab P E.C) (h : Rel P Z X st a w) {F1 : Nat → Nat} {ts : List Nat} (hs : Shown X st (fun b => b < w.heap.size) F1 ts) (hF : ∀ t, ∀ B b cap, look st.b t = some B → X.β t = some (b, cap) → t ∉ ts → F1 b = X.F b) :
    ∀ {rs : List RS} {vs : List PV} {us : List Value} {y : RSs.I rs}, decRess E.C st rs vs = some y → All2 (RelP P X st.b w) vs us → (∀ t, t ∈ resOld st rs vs → t ∈ ts) → (∀ t, t ∈ resNew rs vs → t ∉ ts) → RessOk P F1 w rs y us (resQs X.β rs vs) := by
  have one : ∀ {r : RS} {v : PV} {u : Value} {y : r.I}, decRes E.C st r v = some y → RelP P X st.b w v u → (∀ t, t ∈ resOld st [r] [v] → t ∈ ts) → (∀ t, t ∈ resNew [r] [v] → t ∉ ts) → ResOk P F1 w r y u (resQ X.β r v) := by
    intro r v u y hd hr ho hn
    cases r with
    | d t =>
      simp only [decRes] at hd
      obtain ⟨h1, hd⟩ := cond_some hd
      have hvp := h.vp hs hr (fun t' ht => ho t' (by simp [resOld, ht])) fun t' _ B b cap hB hb => h.buf_lt hB hb
      obtain ⟨g, g1, g2⟩ := toVT_ok hC (fun _ h => h) hd hvp
      exact ⟨rfl, g, g1, RepV.noFn t h1 g2⟩
    | fresh e =>
      cases v with
      | agg ps => cases hd
      | tup vs => cases hd
      | s p =>
        cases p with
        | own tok =>
          simp only [decRes] at hd
          obtain ⟨h1, hd⟩ := cond_some hd
          cases hB : look st.b tok with
          | none => rw [hB] at hd; cases hd
          | some B =>
            obtain ⟨x, e2, xs⟩ := B
            rw [hB] at hd
            cases x with
            | false => cases hd
            | true =>
              simp only at hd
              obtain ⟨p, hp⟩ := castL_some hd
              subst p
              simp only at hp
              subst hp
              obtain ⟨B, hB', hsl⟩ := hr
              rw [hB] at hB'; cases hB'
              have hnt := hn tok (by simp [resNew])
              have hok := h.b tok _ hB
              unfold SlAt at hsl
              show BufVal P (fun _ => False) F1 w e2 xs u (X.β tok)
              cases hβ : X.β tok with
              | none => rw [hβ] at hsl; exact hsl
              | some q =>
                obtain ⟨b, cap⟩ := q
                rw [hβ] at hsl
                simp only [BufOk, hβ] at hok
                obtain ⟨k1, k2, k3, cs, el, k4, k5, k6⟩ := hok
                refine ⟨hsl, ?_, k3, cs, el, k4, k5, fun i hi => ?_⟩
                · rw [hF tok _ b cap hB hβ hnt]; simpa using k2
                · exact RepV.noFn e2 h1 (RepV.mono (fun _ h => h) hs.F (Keeps.refl _ _ _) _ _ _ _ (fun _ _ => rfl) (k6 i hi))
        | _ => cases hd
  intro rs
  induction rs with
  | nil =>
    intro vs us y hd hr ho hn
    cases vs with
    | nil =>
      cases us with
      | nil => exact ⟨rfl, rfl⟩
      | cons _ _ => exact hr.elim
    | cons _ _ => cases hd
  | cons r rs ih =>
    intro vs us y hd hr ho hn
    cases vs with
    | nil => cases rs <;> cases hd
    | cons v vs =>
      cases us with
      | nil => exact hr.elim
      | cons u us =>
        have ho1 : ∀ t, t ∈ resOld st [r] [v] → t ∈ ts := fun t ht => ho t (by
          cases r with
          | d x => simp [resOld] at ht ⊢; exact .inl ht
          | fresh e => simp [resOld] at ht)
        have ho2 : ∀ t, t ∈ resOld st rs vs → t ∈ ts := fun t ht => ho t (by
          cases r with
          | d x => simp [resOld, ht]
          | fresh e => simpa [resOld] using ht)
        have hn12 : (∀ t, t ∈ resNew [r] [v] → t ∉ ts) ∧ ∀ t, t ∈ resNew rs vs → t ∉ ts := by
          have key : (∀ t, t ∈ resNew [r] [v] → t ∈ resNew (r :: rs) (v :: vs)) ∧ ∀ t, t ∈ resNew rs vs → t ∈ resNew (r :: rs) (v :: vs) := by
            cases r with
            | d x => exact ⟨fun t ht => by simp [resNew] at ht, fun t ht => ht⟩
            | fresh e =>
              cases v with
              | agg ps => exact ⟨fun t ht => by simp [resNew] at ht, fun t ht => ht⟩
              | tup ps => exact ⟨fun t ht => by simp [resNew] at ht, fun t ht => ht⟩
              | s p =>
                cases p with
                | own tok => exact ⟨fun t ht => by simp [resNew] at ht; subst ht; simp [resNew], fun t ht => by simp [resNew, ht]⟩
                | _ => exact ⟨fun t ht => by simp [resNew] at ht, fun t ht => ht⟩
          exact ⟨fun t ht => hn t (key.1 t ht), fun t ht => hn t (key.2 t ht)⟩
        cases rs with
        | nil =>
          cases vs with
          | nil =>
            cases us with
            | nil => exact ⟨u, _, rfl, rfl, one (show decRes E.C st r v = some y from hd) hr.1 ho1 hn12.1⟩
            | cons _ _ => exact hr.2.elim
          | cons _ _ => cases hd
        | cons r' rs =>
          obtain ⟨h1, h2⟩ := decRess_cons hd
          exact ⟨u, us, _, _, rfl, rfl, one h1 hr.1 ho1 hn12.1, ih h2 hr.2 ho2 hn12.2⟩

theorem enters_of {f : FuncId} {fn : Func} {c : Code} (hf : P.funcs[f]? = some fn) (hb : fn.body = some c) (hn : (fn.name == "runtime.NumGoroutine") = false) : Enters P f := by
  intro args w
  have hn' : ¬ fn.name = "runtime.NumGoroutine" := by simpa using hn
  simp [callFunc, hf, hb, hn']

theorem init_rel {fn : Func} {as : List AS} {z : ASs.I as} {F : Nat → Nat} {us : List Value} {qs : List (Option (Nat × Nat))} (hF : ∀ b, w.heap.size ≤ b → F b = 0) (hnd : (blk qs).Nodup)
    (hargs : ArgsOk P (fun b => b < w.heap.size ∧ b ∉ blk qs) F w as z us qs) (hnt : E.nt ≤ fn.ntmps) (hle : as.length ≤ E.nt) (hlo : E.lo ≤ as.length) :
    Rel P ⟨w, F, blk qs, E.nt, E.lo, fun n => us.getD n Go.undef⟩ ⟨fun b => b < w.heap.size ∧ b ∉ blk qs, F, fun _ => 0, fun t => (qs[t]?).join⟩ (initSt as z) { tmps := us.toArray ++ Array.replicate (fn.ntmps - us.toArray.size) Go.undef, defers := [] } w := by
  have hin := initT_ok (P := P) (X := ⟨fun b => b < w.heap.size ∧ b ∉ blk qs, F, fun _ => 0, fun t => (qs[t]?).join⟩) (w := w) (bs := (initT 0 as z).2) (i := 0) hargs (fun j q hq => by simp [hq]) (fun b hb hO => hO.2 hb) (fun t B h => h)
  obtain ⟨i1, i2, i3⟩ := hin
  have hget : ∀ n u, us[n]? = some u → (us.toArray ++ Array.replicate (fn.ntmps - us.toArray.size) Go.undef).getD n Go.undef = u := by
    intro n u e2
    have hlt : n < us.length := (List.getElem?_eq_some_iff.1 e2).1
    rw [Array.getD_eq_getD_getElem?, Array.getElem?_append_left (by simpa using hlt)]
    simp [e2]
  refine { O := rfl, evo := Evo.refl _ _ _ hF, nt := ⟨?_, fun n hn => ?_⟩, defers := rfl, t := fun n pv hn => ?_, r := (fun r c hr => by cases hr), b := fun t B hB => ?_, rr := (fun r r' c c' hr => by cases hr), rb := (fun r c t B b cap hr => by cases hr), bb := fun t t' B B' b cap b' cap' h1 h2 h3 h4 hne => ?_ }
  · simp; omega
  · have hn : n < E.lo := hn
    have hlt : n < us.length := by omega
    show _ = us.getD n Go.undef
    rw [hget n us[n] (List.getElem?_eq_getElem hlt)]
    simp [hlt]
  · obtain ⟨j, u, e1, e2, e3⟩ := i2 n pv hn
    rw [Nat.zero_add] at e1
    subst e1
    show RelP P _ _ w pv _
    rw [hget n u e2]; exact e3
  · obtain ⟨j, _, _, e3⟩ := i3 t B hB
    exact e3
  · obtain ⟨j, e1, e2, _⟩ := i3 t B h1
    obtain ⟨j', e1', e2', _⟩ := i3 t' B' h2
    rw [h3] at e2
    rw [h4] at e2'
    exact blk_apart hnd e2 e2' (by omega)

/-- A function that the machine has run keeps its contract. -/
theorem arun_sound {f : FuncId} {fn : Func} {c : Code} (hf : P.funcs[f]? = some fn) (hb : fn.body = some c) (hname : (fn.name == "runtime.NumGoroutine") = false) (hm : P.follows .mixedOrders = true) (hnt : E.nt ≤ fn.ntmps)
    (hty : tysB P E.ty = true) (hC : SoundTab P E.C) (heq : ∀ T ti cs, memb E.eqs T = true → E.tyOf T = some ti → ti.vt = .ag cs → EqOk P T cs) (con : Con) (hlo : E.lo ≤ con.as.length) (hrun : ∀ z y, con.f z = some y → arun E fn con.as con.rs z = some y) : SoundCon P f con := by
  refine ⟨enters_of hf hb hname, fun z y hy F w us qs hF hnd hargs => ?_⟩
  have hr := hrun z y hy
  unfold arun at hr
  rw [hb] at hr
  simp only at hr
  obtain ⟨hle, hr⟩ := cond_some hr
  have hle := Nat.le_of_ble_eq_true hle
  have hrel := init_rel (P := P) (E := E) (fn := fn) hF hnd hargs hnt hle hlo
  have hE : EnvOk P E ⟨w, F, blk qs, E.nt, E.lo, fun n => us.getD n Go.undef⟩ := ⟨hty, hC, rfl, rfl, heq⟩
  refine calls_of_wp hf hb (aexec_ok hE hm _ c (Nat.lt_succ_self _) hrel hr fun e X' st' a' w' h' hfin => ?_)
  have fin : (match resPVs E st' fn.results.toList with
      | some vs => cond (apartB (resOld st' con.rs vs) (resNew con.rs vs)) (decRess E.C st' con.rs vs) none
      | none => none) = some y → a'.defers = [] ∧ ∃ v, (results fn a'.tmps).run P w' = .ok v w' ∧ ∃ vs F' ps, Ending.returned v = .returned (packV vs) ∧ Evo (blk qs) F F' w w' ∧ RessOk P F' w' con.rs y vs ps ∧ (blk ps).Nodup ∧ ∀ b, b ∈ blk ps → w.heap.size ≤ b ∨ b ∈ blk qs := by
    intro hfin
    refine ⟨h'.defers, ?_⟩
    split at hfin
    · rename_i vs e1
      obtain ⟨hap, hfin⟩ := cond_some hfin
      obtain ⟨n1, n2⟩ := apartB_ok hap
      obtain ⟨us', k1, k2⟩ := resPVs_ok hE h' (fun | .tmp t => pure (a'.tmps.getD t Go.undef) | .cell c t => do loadVar t (← asAddr (a'.tmps.getD c Go.undef))) (fun _ => rfl) (fun _ _ => rfl) e1
      obtain ⟨F1, f1, f2, f3, f4⟩ := Rel.share (resOld st' con.rs vs) h'
      have hs : Shown X' st' (fun b => b < w'.heap.size) F1 (resOld st' con.rs vs) := ⟨h'.oldO, f1, fun r c hr => h'.row_lt hr, fun t ht B b cap => f3 t B b cap ht⟩
      have hF1 : ∀ t B b cap, look st'.b t = some B → X'.β t = some (b, cap) → t ∉ resOld st' con.rs vs → F1 b = X'.F b := by
        intro t B b cap hB hb hn
        refine f2 b fun t' B' cap' ht' hB' hb' => ?_
        have hne : t' ≠ t := fun e => hn (e ▸ ht')
        exact h'.bb t' t B' B b cap' b cap hB' hB hb' hb hne rfl
      have hres := decRess_ok hE.C h' hs hF1 hfin k2 (fun t ht => ht) n2
      refine ⟨packV us', ?_, us', F1, resQs X'.β con.rs vs, rfl, f4.evo, hres, resQs_nodup n1 fun t t' b cap cap' h1 h2 hb hb' => ?_, fun b hb => ?_⟩
      · unfold results
        rw [Array.mapM_eq_mapM_toList]
        have k3 : (fn.results.toList.mapM (m := Sem) fun | .tmp t => pure (a'.tmps.getD t Go.undef) | .cell c t => do loadVar t (← asAddr (a'.tmps.getD c Go.undef))).run P w' = .ok us' w' := k1
        rw [Sem.run_bind, Sem.run_map]
        erw [k3]
        simp only [Result.andThen_ok, Sem.run_pure]
        congr 1
        match us' with
        | [] => rfl
        | [v] => rfl
        | v :: v' :: vs =>
          rw [dif_neg (by simp)]
          rfl
      · obtain ⟨B, hB, _⟩ := decRess_new hfin t h1
        obtain ⟨B', hB', _⟩ := decRess_new hfin t' h2
        rcases Nat.decEq t t' with hne | e
        · exact absurd rfl (h'.bb t t' B B' b cap b cap' hB hB' hb hb' hne)
        · exact e
      · obtain ⟨cap, hm⟩ := mem_blk.1 hb
        obtain ⟨tok, h1, h2⟩ := resQs_mem hm
        obtain ⟨B, hB, _⟩ := decRess_new hfin tok h1
        have hok := h'.b tok B hB
        simp only [BufOk, h2] at hok
        have hO := hok.1
        rw [h'.O] at hO
        rcases Nat.lt_or_ge b w.heap.size with h3 | h3
        · exact .inr (Classical.byContradiction fun h4 => hO ⟨h3, h4⟩)
        · exact .inl h3
    · cases hfin
  cases e with
  | normal => exact fin hfin
  | ret => exact fin hfin
  | exit id => cases hfin
  | goto l => cases hfin

/-- What a function that writes its first argument's elements, and hands back nothing, leaves of them. -/
def ioEnd (e : VT) : AX → St → Option (List e.I) := fun ex st => match ex with
  | .normal | .ret => match st.tmp 0, look st.b 0 with
    | .s (.own 0), some ⟨true, e', xs⟩ => castL e' e xs
    | _, _ => none
  | _ => none
def arunIo (E : Env) (fn : Func) (e : VT) (as : List AS) (z : ASs.I (.mv e :: as)) : Option (List e.I) := match fn.body with
  | some c => cond (Nat.ble (as.length + 1) E.nt && e.noFn && Nat.ble 1 E.lo && fn.results.toList.isEmpty) (aexec E c (initSt (.mv e :: as) z) (ioEnd e)) none
  | none => none
def IoCon (P : Program) (f : FuncId) (e : VT) (as : List AS) (g : ASs.I (.mv e :: as) → Option (List e.I)) : Prop :=
  Enters P f ∧ ∀ z y, g z = some y → ∀ (F : Nat → Nat) (w : World) (u : Value) (us : List Value) (q : Option (Nat × Nat)) (qs : List (Option (Nat × Nat))),
    (∀ b, w.heap.size ≤ b → F b = 0) → (blk (q :: qs)).Nodup → ArgsOk P (fun b => b < w.heap.size ∧ b ∉ blk (q :: qs)) F w (.mv e :: as) z (u :: us) (q :: qs) →
      Calls P f (u :: us).toArray w fun ex w' => ex = .returned (.tuple #[]) ∧ ∃ F' q', Evo (blk (q :: qs)) F F' w w' ∧ BufVal P (fun _ => False) F' w' e y u q' ∧ ∀ b cap, q' = some (b, cap) → b ∈ blk (q :: qs)
theorem arun_io {f : FuncId} {fn : Func} {c : Code} (hf : P.funcs[f]? = some fn) (hb : fn.body = some c) (hname : (fn.name == "runtime.NumGoroutine") = false) (hm : P.follows .mixedOrders = true) (hnt : E.nt ≤ fn.ntmps)
    (hty : tysB P E.ty = true) (hC : SoundTab P E.C) (heq : ∀ T ti cs, memb E.eqs T = true → E.tyOf T = some ti → ti.vt = .ag cs → EqOk P T cs) (e : VT) (as : List AS) (hlo : E.lo ≤ as.length + 1) (g : ASs.I (.mv e :: as) → Option (List e.I)) (hrun : ∀ z y, g z = some y → arunIo E fn e as z = some y) : IoCon P f e as g := by
  refine ⟨enters_of hf hb hname, fun z y hy F w u us q qs hF hnd hargs => ?_⟩
  have hr := hrun z y hy
  unfold arunIo at hr
  rw [hb] at hr
  simp only at hr
  obtain ⟨hcd, hr⟩ := cond_some hr
  simp only [Bool.and_eq_true] at hcd
  obtain ⟨⟨⟨hle, hnf⟩, hlo1⟩, hres⟩ := hcd
  have hle := Nat.le_of_ble_eq_true hle
  have hlo1 := Nat.le_of_ble_eq_true hlo1
  have hres : fn.results = #[] := by
    have := List.isEmpty_iff.1 hres
    exact Array.toList_eq_nil_iff.1 this
  have hrel := init_rel (P := P) (E := E) (fn := fn) hF hnd hargs hnt (by simpa using hle) (by simpa using hlo)
  have hE : EnvOk P E ⟨w, F, blk (q :: qs), E.nt, E.lo, fun n => (u :: us).getD n Go.undef⟩ := ⟨hty, hC, rfl, rfl, heq⟩
  refine calls_of_wp hf hb (aexec_ok hE hm _ c (Nat.lt_succ_self _) hrel hr fun ex X' st' a' w' h' hfin => ?_)
  have fin : (match st'.tmp 0, look st'.b 0 with
    | .s (.own 0), some ⟨true, e', xs⟩ => castL e' e xs
    | _, _ => none) = some y → a'.defers = [] ∧ ∃ v, (results fn a'.tmps).run P w' = .ok v w' ∧ Ending.returned v = .returned (.tuple #[]) ∧ ∃ F' q', Evo (blk (q :: qs)) F F' w w' ∧ BufVal P (fun _ => False) F' w' e y u q' ∧ ∀ b cap, q' = some (b, cap) → b ∈ blk (q :: qs) := by
    intro hfin
    refine ⟨h'.defers, .tuple #[], results_none hres _ _ _, rfl, ?_⟩
    split at hfin
    · rename_i e' xs ht hB
      obtain ⟨p, hp⟩ := castL_some hfin
      subst p
      simp only at hp
      subst hp
      have hv := tmp_ok h' 0
      rw [ht] at hv
      obtain ⟨B, hB', hsl⟩ := hv
      rw [hB] at hB'; cases hB'
      have harg : a'.tmps.getD 0 Go.undef = u := by
        have := h'.nt.arg 0 (by show 0 < E.lo; omega)
        rw [this]; rfl
      rw [harg] at hsl
      have hok := h'.b 0 _ hB
      have h0 : BufVal P (fun b => b < w.heap.size ∧ b ∉ blk (q :: qs)) F w e' z.1 u q := by
        obtain ⟨u', us', q0, qs', e1, e2, e3, _⟩ := hargs
        cases e1; cases e2
        exact e3
      unfold SlAt at hsl
      have none_case : xs.length = 0 → (∃ a, u = .slice a 0 0) → ∃ F' q', Evo (blk (q :: qs)) F F' w w' ∧ BufVal P (fun _ => False) F' w' e' xs u q' ∧ ∀ b cap, q' = some (b, cap) → b ∈ blk (q :: qs) :=
        fun h1 h2 => ⟨X'.F, Option.none, h'.evo, ⟨h1, h2⟩, fun b cap e => by cases e⟩
      cases hβ : X'.β 0 with
      | none =>
        rw [hβ] at hsl
        exact none_case hsl.1 hsl.2
      | some bc =>
        obtain ⟨b, cap⟩ := bc
        rw [hβ] at hsl
        have hsl : u = .slice (some ⟨b, 0, Option.none⟩) xs.length cap := hsl
        simp only [BufOk, hβ] at hok
        obtain ⟨k1, k2, k3, cs, el, k4, k5, k6⟩ := hok
        cases q with
        | none =>
          obtain ⟨_, a0, hu⟩ := h0
          rw [hu] at hsl
          injection hsl with e1 e2 e3
          exact none_case e2.symm ⟨_, hu⟩
        | some q0 =>
          obtain ⟨b0, cap0⟩ := q0
          obtain ⟨hu, _⟩ := h0
          have : b0 = b := by rw [hu] at hsl; injection hsl with e1; injection e1 with e1; injection e1
          subst this
          refine ⟨X'.F, some (b0, cap), h'.evo, ⟨hsl, by simpa using k2, k3, cs, el, k4, k5, fun i hi => RepV.noFn e' hnf (k6 i hi)⟩, fun b' cap' e => ?_⟩
          cases e; simp [blk]
    · cases hfin
  cases ex with
  | normal => exact fin hfin
  | ret => exact fin hfin
  | exit id => cases hfin
  | goto l => cases hfin
end Go.PgAM

/-
  Arguments that can be read as data, as the machine's values.
-/
namespace Go.PgAM
open Go Go.RowKit Go.Deep
set_option linter.unusedVariables false
set_option linter.unusedSimpArgs false

def Scs.ofL : List Sc → Scs
  | [] => .nil
  | s :: l => .cons s (Scs.ofL l)
def repL {α : Type} (l : List α) : Nat → List α
  | 0 => []
  | n + 1 => l ++ repL l n
def isAggT (P : Program) (T : TypeId) : Bool := match P.underlying T with
  | some d => aggD d
  | none => false
def vtOf (ag : Bool) (l : List Sc) : Option VT := match ag, l with
  | true, l => some (.ag (Scs.ofL l))
  | false, [s] => some (.sc s)
  | false, _ => none
def scF (P : Program) (g : TypeId → Option (List Sc)) : List Field → Nat → Option (List Sc)
  | [], _ => some []
  | f :: fs, off => cond (Nat.beq f.offset off) (match g f.type with
    | some l => cond (Nat.beq l.length (P.cellsOf f.type)) (match scF P g fs (off + l.length) with
      | some r => some (l ++ r)
      | none => none) none
    | none => none) none
/-- The cells of a type. -/
def scT (P : Program) : Nat → TypeId → Option (List Sc)
  | 0, _ => none
  | n + 1, T => match P.underlying T with
    | some .bool => some [.bool]
    | some (.int k) => some [.int k]
    | some .string => some [.str]
    | some (.slice E) => match scT P n E with
      | some l => cond (Nat.beq l.length (P.cellsOf E) && Nat.ble 1 l.length) (match vtOf (isAggT P E) l with
        | some v => some [.sl v]
        | none => none) none
      | none => none
    | some (.struct fs) => match scF P (scT P n) fs.toList 0 with
      | some l => cond (Nat.beq l.length (P.cellsOf T)) (some l) none
      | none => none
    | some (.array k E) => match scT P n E with
      | some l => cond (Nat.beq l.length (P.cellsOf E) && Nat.beq (k * l.length) (P.cellsOf T)) (some (repL l k)) none
      | none => none
    | _ => none
/-- A type's shape. -/
def vtT (P : Program) (n : Nat) (T : TypeId) : Option VT := match scT P n T with
  | some l => vtOf (isAggT P T) l
  | none => none

mutual
/-- Numbers are such as their kinds have, and nothing is longer than may be. -/
def Sc.wf : (s : Sc) → s.I → Prop
  | .int k, x => k.min ≤ (show Int from x) ∧ (show Int from x) ≤ k.max
  | .bool, _ => True
  | .str, x => (show ByteArray from x).size ≤ maxLen
  | .sl e, xs => List.length (α := e.I) xs ≤ maxLen ∧ ∀ y, y ∈ (show List e.I from xs) → VT.wf e y
  | .fn _ _, _ => True
def VT.wf : (t : VT) → t.I → Prop
  | .sc s, x => Sc.wf s x
  | .ag cs, x => Scs.wf cs x
def Scs.wf : (t : Scs) → t.I → Prop
  | .nil, _ => True
  | .cons s .nil, x => Sc.wf s x
  | .cons s (.cons s' r), x => Sc.wf s x.1 ∧ Scs.wf (.cons s' r) x.2
end

section
variable {H : Type} {enc : TypeId × Value → H} {P : Program} {w : World} {spare : Nat → Bool} {held : Bool} {F : Nat → Nat} {O : Nat → Prop}

/-- All of memory is frozen. -/
def allF (w : World) : Nat → Nat := fun b => if b < w.heap.size then rowLen w b else 0
def CellR (P : Program) (O : Nat → Prop) (F : Nat → Nat) (w : World) (s : Sc) (v : Value) : Prop := ∃ y : s.I, RepS P s O F w y v ∧ Sc.wf s y
theorem all2_rep : ∀ {l : List Sc} {cs : List Value}, All2 (CellR P O F w) l cs → ∃ y : (Scs.ofL l).I, RepCs P (Scs.ofL l) O F w y (fun j => cs[j]?) ∧ Scs.wf (Scs.ofL l) y
  | [], _, _ => ⟨(), by simp only [Scs.ofL, RepCs], by simp only [Scs.ofL, Scs.wf]⟩
  | [s], v :: cs, h => by
    obtain ⟨y, h1, h2⟩ := h.1
    exact ⟨y, by simp only [Scs.ofL, RepCs]; exact ⟨v, rfl, h1⟩, by simp only [Scs.ofL, Scs.wf]; exact h2⟩
  | s :: s' :: l, v :: cs, h => by
    obtain ⟨y, h1, h2⟩ := h.1
    obtain ⟨z, h3, h4⟩ := all2_rep (l := s' :: l) h.2
    refine ⟨(y, z), ?_, ?_⟩
    · show RepCs P (.cons s (Scs.ofL (s' :: l))) O F w (y, z) _
      simp only [Scs.ofL, RepCs]
      exact ⟨⟨v, rfl, h1⟩, by simpa [Scs.ofL] using h3⟩
    · show Scs.wf (.cons s (Scs.ofL (s' :: l))) (y, z)
      simp only [Scs.ofL, Scs.wf]
      exact ⟨h2, h4⟩
  | _ :: _, [], h => h.elim
theorem ofL_size : ∀ (l : List Sc), (Scs.ofL l).size = l.length
  | [] => rfl
  | s :: l => by simp [Scs.ofL, Scs.size, ofL_size l]
theorem vtOf_size {ag : Bool} {l : List Sc} {v : VT} (h : vtOf ag l = some v) : v.size = l.length := by
  unfold vtOf at h
  split at h
  · cases h; exact ofL_size _
  · cases h; rfl
  · cases h
theorem vtOf_rep {ag : Bool} {l : List Sc} {v : VT} {cs : List Value} (h : vtOf ag l = some v) (hc : All2 (CellR P O F w) l cs) : ∃ y : v.I, RepV P v O F w y (fun j => cs[j]?) ∧ VT.wf v y := by
  unfold vtOf at h
  split at h
  · cases h
    obtain ⟨y, h1, h2⟩ := all2_rep hc
    exact ⟨y, by simp only [RepV]; exact h1, by simp only [VT.wf]; exact h2⟩
  · rename_i s
    cases h
    match cs, hc with
    | [v], hc =>
      obtain ⟨y, h1, h2⟩ := hc.1
      exact ⟨y, by simp only [RepV]; exact ⟨v, rfl, h1⟩, by simp only [VT.wf]; exact h2⟩
  · cases h
theorem list_of {α : Type} {Q : Nat → α → Prop} : ∀ (n : Nat), (∀ i, i < n → ∃ y, Q i y) → ∃ xs : List α, xs.length = n ∧ ∀ i (h : i < xs.length), Q i (List.get xs ⟨i, h⟩)
  | 0, _ => ⟨[], rfl, fun i h => by simp at h⟩
  | n + 1, h => by
    obtain ⟨xs, h1, h2⟩ := list_of n fun i hi => h i (by omega)
    obtain ⟨y, hy⟩ := h n (by omega)
    refine ⟨xs ++ [y], by simp [h1], fun i hi => ?_⟩
    by_cases hc : i < xs.length
    · have hg : List.get (xs ++ [y]) ⟨i, hi⟩ = List.get xs ⟨i, hc⟩ := by simp only [List.get_eq_getElem]; exact List.getElem_append_left hc
      rw [hg]; exact h2 i hc
    · have e : i = n := by simp at hi; omega
      subst e
      have hg : List.get (xs ++ [y]) ⟨i, hi⟩ = y := by
        simp only [List.get_eq_getElem]
        rw [List.getElem_append_right (by omega)]
        simp
      rw [hg]; exact hy
theorem rep_take {R : Sc → Value → Prop} {l : List Sc} {cs : List Value} : ∀ (k off : Nat), (∀ i, i < k → All2 R l ((cs.drop (off + i * l.length)).take l.length)) → All2 R (repL l k) ((cs.drop off).take (k * l.length))
  | 0, off, h => by simp [repL, All2]
  | k + 1, off, h => by
    have h0 := h 0 (by omega)
    simp only [Nat.zero_mul, Nat.add_zero] at h0
    have ih := rep_take k (off + l.length) fun i hi => by
      have := h (i + 1) (by omega)
      rwa [show off + (i + 1) * l.length = off + l.length + i * l.length by rw [Nat.succ_mul]; omega] at this
    have e : (cs.drop off).take ((k + 1) * l.length) = (cs.drop off).take l.length ++ (cs.drop (off + l.length)).take (k * l.length) := by
      rw [Nat.succ_mul, Nat.add_comm (k * l.length), List.take_add, List.drop_drop]
    rw [e]
    exact All2.append h0 ih

theorem trod_cells : ∀ (n : Nat) {T : TypeId} {l : List Sc} {fuel : Nat} {cs : List Value} {x : DataW H × List MemPlace}, DataW.trod enc P w 0 spare held fuel T cs = some x → scT P n T = some l → All2 (CellR P O (allF w) w) l cs
  | 0, T, l, fuel, cs, x, h, hs => by cases hs
  | n + 1, T, l, fuel, cs, x, h, hs => by
    simp only [scT] at hs
    split at hs
    · rename_i hu
      cases hs
      obtain ⟨b, rfl, _⟩ := DataW.trod_bool hu h
      exact ⟨⟨b, by simp only [RepS], by simp only [Sc.wf]⟩, trivial⟩
    · rename_i k hu
      cases hs
      obtain ⟨m, rfl, _, hw⟩ := DataW.trod_int hu h
      simp only [Lit.wf, Bool.and_eq_true, decide_eq_true_eq] at hw
      exact ⟨⟨m, by simp only [RepS], by simp only [Sc.wf]; exact hw⟩, trivial⟩
    · rename_i hu
      cases hs
      obtain ⟨s, rfl, _, hw⟩ := DataW.trod_string hu h
      exact ⟨⟨s, by simp only [RepS], by simp only [Sc.wf]; exact hw⟩, trivial⟩
    · rename_i e hu
      split at hs
      · rename_i le hle
        obtain ⟨hc, hs⟩ := cond_some hs
        simp only [Bool.and_eq_true] at hc
        have hc1 := Nat.eq_of_beq_eq_true hc.1
        have hc2 := Nat.le_of_ble_eq_true hc.2
        split at hs
        · rename_i v hv
          cases hs
          have hvs := vtOf_size hv
          rcases open_slice hu h with ⟨rfl, _⟩ | ⟨a, len, cap, m, n', D, Pl, rfl, _, hlc, hcm, hm, _, hi⟩
          · refine ⟨⟨([] : List v.I), ?_, ?_⟩, trivial⟩
            · simp only [RepS]; exact ⟨none, 0, rfl, Nat.le_refl _, .inl rfl⟩
            · simp only [Sc.wf]; exact ⟨Nat.zero_le _, fun y hy => by cases hy⟩
          · have hlm : len ≤ m := by rw [hm]; split <;> omega
            have hcells : ∀ i, i < len → ∃ cs' : List Value, (∀ j, j < v.size → w.cell? (a.add (i * v.size + j)) = cs'[j]?) ∧ cs'.length = v.size ∧ ∃ y : v.I, RepV P v O (allF w) w y (fun j => cs'[j]?) ∧ VT.wf v y := by
              intro i hil
              obtain ⟨cs', k1, k2⟩ := hi i (by omega)
              obtain ⟨_, k3, k4⟩ := World.cells?_some k1
              have k5 := trod_cells n k2 hle
              refine ⟨cs', fun j hj => ?_, by rw [k3, ← hc1, hvs], vtOf_rep hv k5⟩
              have := k4 j (by rw [← hc1, ← hvs]; exact hj)
              rw [← hc1, ← hvs, add_add] at this
              exact this
            have hspot : 0 < len → a.spot = none := by
              intro hl
              obtain ⟨cs', k1, k2, _⟩ := hcells 0 hl
              have := k1 0 (by omega)
              have hs : cs'[0]? ≠ none := by
                rw [List.getElem?_eq_getElem (by omega)]; simp
              rw [← this] at hs
              cases e : a.spot with
              | none => rfl
              | some sp =>
                exfalso; apply hs
                unfold World.cell?
                have : (a.add (0 * v.size + 0)).spot.isSome = true := by unfold Addr.add; split <;> simp_all
                simp only [this, if_true]
                split <;> rfl
            obtain ⟨xs, x1, x2⟩ := list_of (Q := fun i (y : v.I) => RepV P v O (allF w) w y (fun j => w.cell? (a.add (i * v.size + j))) ∧ VT.wf v y) len fun i hil => by
              obtain ⟨cs', k1, k2, y, k3, k4⟩ := hcells i hil
              exact ⟨y, RepV.mono (fun _ h => h) (fun _ => Nat.le_refl _) (Keeps.refl _ _ _) v _ _ _ (fun j hj => (k1 j hj).symm) k3, k4⟩
            refine ⟨⟨xs, ?_, ?_⟩, trivial⟩
            · simp only [RepS]
              have x1' : List.length (α := v.I) xs = len := x1
              refine ⟨some a, cap, by rw [x1'], by rw [x1']; exact hlc, ?_⟩
              rcases Nat.eq_zero_or_pos len with h0 | h0
              · exact .inl (by rw [x1']; exact h0)
              · right
                have hsp := hspot h0
                obtain ⟨b, off, sp⟩ := a
                simp only at hsp
                subst hsp
                refine ⟨b, off, rfl, ?_, fun i hi => ?_⟩
                · rw [x1']
                  obtain ⟨cs', k1, k2, _⟩ := hcells (len - 1) (by omega)
                  have hl := k1 (v.size - 1) (by omega)
                  rw [add_at, List.getElem?_eq_getElem (by omega)] at hl
                  unfold World.cell? at hl
                  split at hl
                  · rename_i cs el fr hb
                    simp only [Option.isSome_none, Bool.false_eq_true, if_false] at hl
                    have hlt := (Array.getElem?_eq_some_iff.1 hl).1
                    have hbl := lt_of_heap hb
                    unfold allF rowLen
                    rw [if_pos hbl, hb]
                    simp only
                    have e1 : (len - 1) * v.size + v.size = len * v.size := by
                      rw [← Nat.succ_mul]; congr 1; omega
                    omega
                  · cases hl
                · have := (x2 i hi).1
                  refine RepV.mono (fun _ h => h) (fun _ => Nat.le_refl _) (Keeps.refl _ _ _) v _ _ _ (fun j hj => ?_) this
                  rw [add_at, Nat.add_assoc]
            · simp only [Sc.wf]
              refine ⟨by show xs.length ≤ maxLen; rw [x1]; omega, fun y hy => ?_⟩
              obtain ⟨i, hi⟩ := List.mem_iff_get.1 hy
              rw [← hi]; exact (x2 i.1 i.2).2
        · cases hs
      · cases hs
    · rename_i fs hu
      split at hs
      · rename_i l' hl'
        obtain ⟨hc, hs⟩ := cond_some hs
        cases hs
        have hc := Nat.eq_of_beq_eq_true hc
        obtain ⟨xs, n', _, _, hlen, hxl, hf⟩ := DataW.trod_struct hu h
        have key : ∀ (gs : List Field) (off : Nat) (l' : List Sc), (∀ f ∈ gs, f ∈ fs.toList) → scF P (scT P n) gs off = some l' → All2 (CellR P O (allF w) w) l' ((cs.drop off).take l'.length) := by
          intro gs
          induction gs with
          | nil => intro off l' _ hl; cases hl; simp [All2]
          | cons f gs ih =>
            intro off l' hm hl
            simp only [scF] at hl
            obtain ⟨ho, hl⟩ := cond_some hl
            have ho := Nat.eq_of_beq_eq_true ho
            split at hl
            · rename_i l1 hl1
              obtain ⟨hz, hl⟩ := cond_some hl
              have hz := Nat.eq_of_beq_eq_true hz
              split at hl
              · rename_i r hr
                cases hl
                obtain ⟨i, hi⟩ := List.mem_iff_getElem?.1 (hm f (by simp))
                have hi' : fs[i]? = some f := by simpa using hi
                have hit := hf i f hi'
                have hil : i < xs.length := by rw [hxl]; exact (Array.getElem?_eq_some_iff.1 hi').1
                rw [List.getElem?_eq_getElem hil] at hit
                have h1 := trod_cells n hit hl1
                rw [ho, ← hz] at h1
                have h2 := ih (off + l1.length) r (fun g hg => hm g (by simp [hg])) hr
                have e : (cs.drop off).take (l1 ++ r).length = (cs.drop off).take l1.length ++ (cs.drop (off + l1.length)).take r.length := by
                  rw [List.length_append, List.take_add, List.drop_drop]
                rw [e]
                exact All2.append h1 h2
              · cases hl
            · cases hl
        have := key fs.toList 0 l (fun f hf => hf) hl'
        rw [List.drop_zero, hc, ← hlen, List.take_length] at this
        exact this
      · cases hs
    · rename_i k e hu
      split at hs
      · rename_i le hle
        obtain ⟨hc, hs⟩ := cond_some hs
        cases hs
        simp only [Bool.and_eq_true] at hc
        have hc1 := Nat.eq_of_beq_eq_true hc.1
        have hc2 := Nat.eq_of_beq_eq_true hc.2
        obtain ⟨xs, n', _, _, hlen, hxl, hf⟩ := DataW.trod_array hu h
        have := rep_take (R := CellR P O (allF w) w) (l := le) (cs := cs) k 0 fun i hi => by
          have hit := hf i hi
          rw [List.getElem?_eq_getElem (by omega)] at hit
          have h1 := trod_cells n hit hle
          rw [← hc1] at h1
          rw [Nat.zero_add]; exact h1
        rw [List.drop_zero, hc2, ← hlen, List.take_length] at this
        exact this
      · cases hs
    · cases hs

/-- An argument. -/
theorem arg_open {n : Nat} {T : TypeId} {r : Reach} {base : Nat} {v : Value} {d : DataW H} {ps : List MemPlace} {t : VT} (hok : Value.okWide P w r base T v) (h : DataW.Trod enc P w 0 spare held T v d ps) (ht : vtT P n T = some t) :
    ∃ x : t.I, VT.wf t x ∧ ArgOk P O (allF w) w (.d t) x v none := by
  obtain ⟨fuel, h⟩ := h
  unfold vtT at ht
  split at ht
  · rename_i l hl
    have hc := trod_cells (O := O) n h hl
    obtain ⟨y, h1, h2⟩ := vtOf_rep ht hc
    refine ⟨y, h2, rfl, ?_⟩
    cases ha : isAggT P T with
    | true =>
      rw [ha] at ht
      cases ht
      have hv : ∃ cs, v = .agg cs := by
        unfold isAggT at ha
        split at ha
        · rename_i d' hd
          unfold Value.okWide at hok
          rw [hd] at hok
          cases d' <;> simp only [aggD, Bool.false_eq_true] at ha <;> exact ⟨_, hok.choose_spec.1⟩
        · cases ha
      obtain ⟨cs, rfl⟩ := hv
      have hlen := All2.length hc
      refine ⟨fun j => cs[j]?, ⟨cs, rfl, ?_, rfl⟩, ?_⟩
      · rw [ofL_size, hlen]; simp [Value.cells]
      · simpa [Value.cells] using h1
    | false =>
      rw [ha] at ht
      unfold vtOf at ht
      split at ht
      · rename_i hb; cases hb
      · rename_i s
        cases ht
        have hone : ∃ u, v.cells.toList = [u] ∧ u.oneCell' = true := by
          match hcl : v.cells.toList, hc with
          | [u], hc =>
            obtain ⟨y, h3, _⟩ := hc.1
            exact ⟨u, rfl, h3.one⟩
        obtain ⟨u, hu, ho⟩ := hone
        have hvu : v = u := by
          cases v with
          | agg cs =>
            exfalso
            unfold isAggT at ha
            split at ha
            · rename_i d' hd
              unfold Value.okWide at hok
              rw [hd] at hok
              cases d' <;> simp_all [aggD, Cell.okWide, Cell.ok]
            · rename_i hd
              unfold Value.okWide at hok
              rw [hd] at hok
              simp [Cell.okWide, Cell.ok, hd] at hok
          | _ => simpa [Value.cells] using hu
        subst hvu
        refine ⟨fun _ => some v, rfl, ?_⟩
        rw [hu] at h1
        simp only [RepV] at h1 ⊢
        exact h1
      · cases ht
  · cases ht
theorem Evo.below {F F' : Nat → Nat} {w w' : World} (e : Evo [] F F' w w') : RowKit.Below w.heap.size w w' := ⟨e.os, e.tape, e.output, e.size, fun k hk => e.block k hk (by simp)⟩
theorem allF_new (w : World) : ∀ b, w.heap.size ≤ b → allF w b = 0 := fun b hb => by
  unfold allF; rw [if_neg (by omega)]
end
end Go.PgAM

/-
  From a contract 'it answers true, of whatever arguments' to the row's last step.
-/
namespace Go.PgAM
open Go Go.RowKit Go.WideShapes Go.ChangeShapes
set_option linter.unusedVariables false
section
variable {H : Type} {enc : TypeId × Value → H} {P : Program}
theorem post_below {f : Func} {s : ChangeSpec} {apart fresh handsOn again : Bool} {W W' : World} {args : Array Value} {v : Value} {ds gs : List (DataW H)} {before pa pv : List MemPlace}
    (hW : DataW.Whole enc P f.params.toList s.vars apart W args.toList ds gs before)
    (hres : ∀ (b : Nat) (sp : Nat → Bool) (hd : Bool), DataW.TrodAll enc P W' b sp hd f.resultTypes.toList (v.resultList f.resultTypes.size) (s.fn H (ds ++ gs)).results [])
    (hargs : ∀ sp : Nat → Bool, (∀ p ∈ before, sp p.block = true) → DataW.TrodAll enc P W' 0 sp true f.params.toList args.toList (s.fn H (ds ++ gs)).args pa)
    (hvars : ∀ sp : Nat → Bool, (∀ p ∈ before, sp p.block = true) → DataW.TrodVars enc P W' sp s.vars (s.fn H (ds ++ gs)).vars pv)
    (hps : before = pa ++ pv) (hb : RowKit.Below W.heap.size W W')
    (hok : ∀ (j : Nat) (t : TypeId) (r : Value), f.resultTypes[j]? = some t → (v.resultList f.resultTypes.size)[j]? = some r → Value.okWide P W' .any 0 t r) :
    s.post enc P f apart fresh handsOn again W args v W' := by
  have hlt : ∀ p ∈ before, p.block < W.heap.size := fun p hp => hW.lt p hp
  have hold : ∀ p ∈ before, (fun b => decide (b < W.heap.size)) p.block = true := fun p hp => by simpa using hlt p hp
  refine ⟨ds, gs, before, [], pa, pv, hW, hres _ _ _, hargs _ hold, hvars _ hold, World.keptBut_mono (fun p hp => ⟨hp, ?_⟩) (hb.frame (· ∈ before)), fun _ => ?_⟩
  · rw [hps, List.mem_append] at hp
    exact Or.inr hp
  · obtain ⟨_, _, _, _, _, hz, hn⟩ := hW
    refine ⟨hok, _, _, ([] ++ pa) ++ pv, ⟨[] ++ pa, pv, trodAll_append (hargs _ (fun _ _ => rfl)) (hres _ _ _), hvars _ (fun _ _ => rfl), rfl, ?_, ?_⟩, ?_⟩
    · intro b off hp
      have hin : MemPlace.cell b off ∈ before := by rw [hps]; simpa using hp
      rw [hb.frozen (hlt _ hin)]
      exact hz b off hin
    · intro ha
      have := hn ha
      rw [hps] at this
      simpa using this
    · intro p hp _
      rw [hps]
      simpa using hp
end
/-- What lay at the call. -/
def low (w : World) (b : Nat) : Prop := b < w.heap.size ∧ b ∉ ([] : List Nat)
/-- A law of two arguments that answers true, of whatever arguments. -/
theorem law2 {P : Program} {f : FuncId} {con : Con} (hs : SoundCon P f con) {t1 t2 : VT} (has : con.as = [.d t1, .d t2]) (hrs : con.rs = [.d (.sc .bool)])
    (hlaw : ∀ z : ASs.I [.d t1, .d t2], t1.wf z.1 → t2.wf z.2.1 → con.f (has ▸ z) = some (hrs ▸ true)) {w : World} {u1 u2 : Value} {x1 : t1.I} {x2 : t2.I}
    (w1 : t1.wf x1) (w2 : t2.wf x2) (h1 : ArgOk P (low w) (allF w) w (.d t1) x1 u1 none) (h2 : ArgOk P (low w) (allF w) w (.d t2) x2 u2 none) :
    Calls P f #[u1, u2] w fun e w' => e = .returned (.bool true) ∧ RowKit.Below w.heap.size w w' := by
  obtain ⟨as, rs, g⟩ := con
  cases has
  cases hrs
  refine (hs.2 (x1, x2, ()) true (hlaw (x1, x2, ()) w1 w2) (allF w) w [u1, u2] [none, none] (allF_new w) List.nodup_nil ⟨_, _, _, _, rfl, rfl, h1, _, _, _, _, rfl, rfl, h2, rfl, rfl⟩).mono ?_
  rintro e w' ⟨vs, F', ps, rfl, hev, hres, -, -⟩
  obtain ⟨u, q, rfl, rfl, -, g', hg, hr⟩ := hres
  simp only [Whole] at hg
  subst hg
  simp only [RepV, RepS] at hr
  obtain ⟨u', hu, hr⟩ := hr
  cases hu
  subst hr
  exact ⟨rfl, hev.below⟩
end Go.PgAM

/-
  '==' of structs and arrays of numbers and bools.
-/
namespace Go.PgAM
open Go Go.RowKit
set_option linter.unusedVariables false
set_option linter.unusedSimpArgs false

def eqTyB (P : Program) : Nat → TypeId → Bool
  | 0, _ => false
  | n + 1, T => match P.underlying T with
    | some .bool => true
    | some (.int _) => true
    | some (.struct fs) => !P.stoodInHeld T && fs.toList.all fun f => f.name != "_" && eqTyB P n f.type
    | some (.array _ E) => eqTyB P n E
    | _ => false
def eqVals : List Value → List Value → Bool
  | [], [] => true
  | .int _ a :: l, .int _ b :: m => (a == b) && eqVals l m
  | .bool a :: l, .bool b :: m => (a == b) && eqVals l m
  | _, _ => false
def Plain (s : Sc) (v : Value) : Prop := match s with
  | .int k => ∃ x, v = .int k x
  | .bool => ∃ b, v = .bool b
  | _ => False
def Pack (ag : Bool) (us : List Value) (x : Value) : Prop := match ag with
  | true => x = .agg us.toArray
  | false => us = [x]
theorem eqVals_app : ∀ {l : List Sc} {a b : List Value} {a' b' : List Value}, All2 Plain l a → All2 Plain l b → eqVals (a ++ a') (b ++ b') = (eqVals a b && eqVals a' b')
  | [], [], [], a', b', _, _ => by simp [eqVals]
  | s :: l, u :: a, v :: b, a', b', h1, h2 => by
    have ih := eqVals_app (a' := a') (b' := b') h1.2 h2.2
    have p1 := h1.1
    have p2 := h2.1
    unfold Plain at p1 p2
    split at p1
    · obtain ⟨x, rfl⟩ := p1
      obtain ⟨y, rfl⟩ := p2
      simp [eqVals, ih, Bool.and_assoc]
    · obtain ⟨x, rfl⟩ := p1
      obtain ⟨y, rfl⟩ := p2
      simp [eqVals, ih, Bool.and_assoc]
    · exact p1.elim
  | [], _ :: _, _, _, _, h, _ => h.elim
  | [], [], _ :: _, _, _, _, h => h.elim
  | _ :: _, [], _, _, _, h, _ => h.elim
  | _ :: _, _ :: _, [], _, _, _, h => h.elim
section
variable {P : Program} {w : World}
theorem scT_und {n : Nat} {T : TypeId} {l : List Sc} (h : scT P n T = some l) : ∃ d, P.underlying T = some d := by
  cases n with
  | zero => cases h
  | succ n =>
    unfold scT at h
    cases e : P.underlying T with
    | none => rw [e] at h; cases h
    | some d => exact ⟨d, rfl⟩
theorem scT_size {n : Nat} {T : TypeId} {l : List Sc} (h : scT P n T = some l) (hl : l.length = P.cellsOf T) : sizeB P T l.length (isAggT P T) = true := by
  obtain ⟨d, hd⟩ := scT_und h
  obtain ⟨i, hi⟩ := info_of_underlying hd
  unfold sizeB isAggT
  rw [hd, hi]
  simp only [Bool.and_eq_true, beq_self_eq_true, and_true]
  have : i.size = l.length := by rw [hl]; simp [Program.cellsOf, hi]
  rw [this]; exact Nat.beq_refl _
theorem scT_one {n : Nat} {T : TypeId} {l : List Sc} (h : scT P n T = some l) (ha : isAggT P T = false) : l.length = 1 := by
  cases n with
  | zero => cases h
  | succ n =>
    unfold scT at h
    unfold isAggT at ha
    split at h
    · cases h; rfl
    · cases h; rfl
    · cases h; rfl
    · split at h
      · obtain ⟨_, h⟩ := cond_some h
        split at h
        · cases h; rfl
        · cases h
      · cases h
    · rename_i fs e; rw [e] at ha; cases ha
    · rename_i k e' e; rw [e] at ha; cases ha
    · cases h
theorem run_part_at {n : Nat} {T : TypeId} {l : List Sc} (h : scT P n T = some l) (hl : l.length = P.cellsOf T) {xs : Array Value} {off : Nat} (hle : off + l.length ≤ xs.size) :
    ∃ v, (part T xs off).run P w = .ok v w ∧ Pack (isAggT P T) ((xs.toList.drop off).take l.length) v := by
  have hs := scT_size h hl
  have h1 := run_isAgg hs w
  have h2 := run_sizeOf hs w
  cases ha : isAggT P T with
  | true =>
    rw [ha] at h1
    refine ⟨.agg (xs.extract off (off + l.length)), by simp [part, h1, h2], ?_⟩
    show _ = Value.agg _
    congr 1
    apply Array.ext'
    simp [Array.toList_extract, List.extract_eq_take_drop]
  | false =>
    rw [ha] at h1
    have h3 := scT_one h ha
    have h4 : xs[off]? = some (xs[off]'(by omega)) := Array.getElem?_eq_getElem (by omega)
    refine ⟨xs[off]'(by omega), by simp [part, h1, h4], ?_⟩
    show (xs.toList.drop off).take l.length = _
    rw [h3]
    have h5 : off < xs.toList.length := by simp; omega
    rw [List.drop_eq_getElem_cons h5]
    simp
theorem plain_sub {l l' : List Sc} {us : List Value} (h : All2 Plain (l ++ l') us) : All2 Plain l (us.take l.length) ∧ All2 Plain l' (us.drop l.length) := by
  refine ⟨?_, ?_⟩
  · have := All2.take l.length h; simpa using this
  · have := All2.drop l.length h; simpa using this
theorem eq_vals : ∀ (n : Nat) {T : TypeId} {l : List Sc}, scT P n T = some l → eqTyB P n T = true → ∀ (d : Nat) {us vs : List Value} {x y : Value}, All2 Plain l us → All2 Plain l vs → Pack (isAggT P T) us x → Pack (isAggT P T) vs y →
    ∀ w, (Op.equalIn (d + n) T x y).run P w = .ok (eqVals us vs) w
  | 0, T, l, h, he, d, us, vs, x, y, hu, hv, hx, hy, w => by cases h
  | n + 1, T, l, h, he, d, us, vs, x, y, hu, hv, hx, hy, w => by
    simp only [scT] at h
    simp only [eqTyB] at he
    cases hund : P.underlying T with
    | none => rw [hund] at h; cases h
    | some dd =>
      rw [hund] at h he
      cases dd with
      | bool =>
        cases h
        have ha : isAggT P T = false := by unfold isAggT; rw [hund]; rfl
        rw [ha] at hx hy
        have hx : us = [x] := hx
        have hy : vs = [y] := hy
        subst hx; subst hy
        obtain ⟨a, rfl⟩ := hu.1
        obtain ⟨b, rfl⟩ := hv.1
        rw [show d + (n + 1) = (d + n) + 1 from rfl, run_equalIn_bool' w (d + n) T a b hund]
        simp [eqVals]
      | int k =>
        cases h
        have ha : isAggT P T = false := by unfold isAggT; rw [hund]; rfl
        rw [ha] at hx hy
        have hx : us = [x] := hx
        have hy : vs = [y] := hy
        subst hx; subst hy
        obtain ⟨a, rfl⟩ := hu.1
        obtain ⟨b, rfl⟩ := hv.1
        rw [show d + (n + 1) = (d + n) + 1 from rfl, run_equalIn_int w (d + n) T k k a b hund]
        simp [eqVals]
      | struct fs =>
        simp only at h he
        split at h
        · rename_i l' hl'
          obtain ⟨hc, h⟩ := cond_some h
          cases h
          have hc := Nat.eq_of_beq_eq_true hc
          have ha : isAggT P T = true := by unfold isAggT; rw [hund]; rfl
          rw [ha] at hx hy
          have hx : x = .agg us.toArray := hx
          have hy : y = .agg vs.toArray := hy
          subst hx; subst hy
          simp only [Bool.and_eq_true, Bool.not_eq_true'] at he
          have hfo : P.fieldsOf T = fs := by unfold Program.fieldsOf; rw [hund]
          rw [show d + (n + 1) = (d + n) + 1 from rfl, run_equalIn_struct w (d + n) T us.toArray vs.toArray (by rw [hfo]; exact hund) he.1, hfo]
          have hul : us.length = l.length := (All2.length hu).symm
          have hvl : vs.length = l.length := (All2.length hv).symm
          have key : ∀ (gs : List Field) (off : Nat) (l' : List Sc), (gs.all fun f => f.name != "_" && eqTyB P n f.type) = true → scF P (scT P n) gs off = some l' → off + l'.length ≤ l.length → All2 Plain l' ((us.drop off).take l'.length) → All2 Plain l' ((vs.drop off).take l'.length) → ∀ w,
              (Op.eqFields (d + n) us.toArray vs.toArray gs).run P w = .ok (eqVals ((us.drop off).take l'.length) ((vs.drop off).take l'.length)) w := by
            intro gs
            induction gs with
            | nil => intro off l' _ hl _ _ _ w; cases hl; simp [Op.eqFields, eqVals]
            | cons f gs ih =>
              intro off l' hm hl hlen hpu hpv w
              simp only [List.all_cons, Bool.and_eq_true, bne_iff_ne, ne_eq] at hm
              simp only [scF] at hl
              obtain ⟨ho, hl⟩ := cond_some hl
              have ho := Nat.eq_of_beq_eq_true ho
              split at hl
              · rename_i l1 hl1
                obtain ⟨hz, hl⟩ := cond_some hl
                have hz := Nat.eq_of_beq_eq_true hz
                split at hl
                · rename_i r hr
                  cases hl
                  simp only [List.length_append] at hlen hpu hpv ⊢
                  have e1 : ∀ zs : List Value, (zs.drop off).take (l1.length + r.length) = (zs.drop off).take l1.length ++ (zs.drop (off + l1.length)).take r.length := fun zs => by
                    rw [List.take_add, List.drop_drop]
                  obtain ⟨u1, u2⟩ := plain_sub hpu
                  obtain ⟨v1, v2⟩ := plain_sub hpv
                  have tk : ∀ zs : List Value, zs.length = l.length → ((zs.drop off).take (l1.length + r.length)).take l1.length = (zs.drop off).take l1.length ∧ ((zs.drop off).take (l1.length + r.length)).drop l1.length = (zs.drop (off + l1.length)).take r.length := fun zs hz => by
                    rw [e1 zs]
                    have hll : ((zs.drop off).take l1.length).length = l1.length := by simp; omega
                    exact ⟨by rw [List.take_left' hll], by rw [List.drop_left' hll]⟩
                  rw [(tk us hul).1] at u1
                  rw [(tk us hul).2] at u2
                  rw [(tk vs hvl).1] at v1
                  rw [(tk vs hvl).2] at v2
                  obtain ⟨a, pa1, pa2⟩ := run_part_at (w := w) hl1 hz (xs := us.toArray) (off := off) (by simp; omega)
                  obtain ⟨b, pb1, pb2⟩ := run_part_at (w := w) hl1 hz (xs := vs.toArray) (off := off) (by simp; omega)
                  have heq := eq_vals n hl1 hm.1.2 d u1 v1 pa2 pb2 w
                  have hih := ih (off + l1.length) r (by simpa using hm.2) hr (by omega) u2 v2 w
                  rw [e1 us, e1 vs, eqVals_app u1 v1]
                  simp only [Op.eqFields, hm.1.1, ne_eq, not_false_eq_true, if_true, Sem.run_bind, ho, pa1, pb1, heq, Result.andThen_ok]
                  cases e : eqVals ((us.drop off).take l1.length) ((vs.drop off).take l1.length) with
                  | false => simp
                  | true => simpa using hih
                · cases hl
              · cases hl
          have := key fs.toList 0 l he.2 hl' (by omega) (by rw [List.drop_zero, ← hul, List.take_length]; exact hu) (by rw [List.drop_zero, ← hvl, List.take_length]; exact hv) w
          rw [List.drop_zero, List.drop_zero] at this
          rw [this]
          rw [← hul, List.take_length, hul, ← hvl, List.take_length]
        · cases h
      | array k e =>
        simp only at h he
        split at h
        · rename_i le hle
          obtain ⟨hc, h⟩ := cond_some h
          cases h
          simp only [Bool.and_eq_true] at hc
          have hc1 := Nat.eq_of_beq_eq_true hc.1
          have ha : isAggT P T = true := by unfold isAggT; rw [hund]; rfl
          rw [ha] at hx hy
          have hx : x = .agg us.toArray := hx
          have hy : y = .agg vs.toArray := hy
          subst hx; subst hy
          obtain ⟨de, hde⟩ := scT_und hle
          obtain ⟨i, hi⟩ := info_of_underlying hde
          rw [show d + (n + 1) = (d + n) + 1 from rfl, run_equalIn_array w (d + n) us.toArray vs.toArray hund hi]
          have hrl : ∀ k, (repL le k).length = k * le.length := by
            intro k
            induction k with
            | zero => simp [repL]
            | succ k ih => simp [repL, ih, Nat.succ_mul, Nat.add_comm]
          have hul : us.length = k * le.length := by rw [← hrl k]; exact (All2.length hu).symm
          have hvl : vs.length = k * le.length := by rw [← hrl k]; exact (All2.length hv).symm
          have key : ∀ (q m : Nat), m + q = k → All2 Plain (repL le q) (us.drop (m * le.length)) → All2 Plain (repL le q) (vs.drop (m * le.length)) → ∀ w, (Op.eqItems (d + n) e (P.cellsOf e) us.toArray vs.toArray (List.range' m q)).run P w = .ok (eqVals (us.drop (m * le.length)) (vs.drop (m * le.length))) w := by
            intro q
            induction q with
            | zero =>
              intro m hm _ _ w
              have hmk : m = k := by omega
              subst hmk
              simp [Op.eqItems, List.drop_of_length_le (Nat.le_of_eq hul), List.drop_of_length_le (Nat.le_of_eq hvl), eqVals]
            | succ q ih =>
              intro m hm hpu hpv w
              simp only [repL] at hpu hpv
              obtain ⟨u1, u2⟩ := plain_sub hpu
              obtain ⟨v1, v2⟩ := plain_sub hpv
              rw [List.drop_drop] at u2 v2
              have em : m * le.length + le.length = (m + 1) * le.length := by rw [Nat.succ_mul]
              have hmk : (m + 1) * le.length ≤ k * le.length := Nat.mul_le_mul_right _ (by omega)
              obtain ⟨a, pa1, pa2⟩ := run_part_at (w := w) hle hc1 (xs := us.toArray) (off := m * le.length) (by simp; omega)
              obtain ⟨b, pb1, pb2⟩ := run_part_at (w := w) hle hc1 (xs := vs.toArray) (off := m * le.length) (by simp; omega)
              have heq := eq_vals n hle he d u1 v1 pa2 pb2 w
              rw [em] at u2 v2
              have hih := ih (m + 1) (by omega) u2 v2 w
              rw [List.range'_succ]
              simp only [Op.eqItems, Sem.run_bind, ← hc1, pa1, pb1, heq, Result.andThen_ok]
              have esplit : ∀ zs : List Value, zs.drop (m * le.length) = (zs.drop (m * le.length)).take le.length ++ zs.drop ((m + 1) * le.length) := fun zs => by
                rw [← em, ← List.drop_drop, List.take_append_drop]
              have e3 : eqVals (us.drop (m * le.length)) (vs.drop (m * le.length)) = (eqVals ((us.drop (m * le.length)).take le.length) ((vs.drop (m * le.length)).take le.length) && eqVals (us.drop ((m + 1) * le.length)) (vs.drop ((m + 1) * le.length))) := by
                have := eqVals_app (a' := us.drop ((m + 1) * le.length)) (b' := vs.drop ((m + 1) * le.length)) u1 v1
                rwa [← esplit us, ← esplit vs] at this
              rw [e3]
              rw [← hc1] at hih
              cases e2 : eqVals ((us.drop (m * le.length)).take le.length) ((vs.drop (m * le.length)).take le.length) with
              | false => simp
              | true => simpa using hih
          have := key k 0 (by omega) (by simpa using hu) (by simpa using hv) w
          simpa [List.range_eq_range'] using this
        · cases h
      | _ => simp at he

theorem flatEq_vals {X : Cx} {bs : List (Nat × Buf)} : ∀ {l : List Sc} {ps qs : List PC} {us vs : List Value} {c : Bool}, flatEq (Scs.ofL l) ps qs = some c → All2 (RelK P X bs w) ps us → All2 (RelK P X bs w) qs vs → All2 Plain l us ∧ All2 Plain l vs ∧ eqVals us vs = c
  | [], ps, qs, us, vs, c, h, h1, h2 => by
    simp only [Scs.ofL] at h
    unfold flatEq at h
    split at h
    · cases h
      cases us with
      | cons _ _ => exact h1.elim
      | nil =>
        cases vs with
        | cons _ _ => exact h2.elim
        | nil => exact ⟨trivial, trivial, rfl⟩
    · rename_i e; cases e
    · rename_i e; cases e
    · cases h
  | s :: l, ps, qs, us, vs, c, h, h1, h2 => by
    simp only [Scs.ofL] at h
    cases ps with
    | nil => cases s <;> cases h
    | cons p ps =>
      cases qs with
      | nil => cases s <;> cases p <;> first | (cases h; done) | (rename_i c; obtain ⟨cs, cx⟩ := c; cases cs <;> cases h)
      | cons q qs =>
        cases us with
        | nil => exact h1.elim
        | cons u us =>
          cases vs with
          | nil => exact h2.elim
          | cons v vs =>
            unfold flatEq at h
            split at h
            · rename_i e _ _; cases e
            · rename_i k r k1 x l2 k2 y m e e1 e2
              cases e; cases e1; cases e2
              obtain ⟨hk, h'⟩ := cond_some h
              simp only [Bool.and_eq_true, decide_eq_true_eq] at hk
              obtain ⟨rfl, rfl⟩ := hk
              clear h
              split at h'
              · rename_i b hb
                have h' := Option.some.inj h'
                subst h'
                obtain ⟨g1, g2, g3⟩ := flatEq_vals hb h1.2 h2.2
                have r1 := h1.1.1
                have r2 := h2.1.1
                simp only [RelC, RepS] at r1 r2
                subst r1; subst r2
                refine ⟨⟨⟨_, rfl⟩, g1⟩, ⟨⟨_, rfl⟩, g2⟩, ?_⟩
                simp only [eqVals, eqI, g3]
                cases ((show Int from x) == y) <;> rfl
              · cases h'
            · rename_i r x l2 y m e e1 e2
              cases e; cases e1; cases e2
              split at h
              · rename_i b hb
                cases h
                obtain ⟨g1, g2, g3⟩ := flatEq_vals hb h1.2 h2.2
                have r1 := h1.1.1
                have r2 := h2.1.1
                simp only [RelC, RepS] at r1 r2
                subst r1; subst r2
                refine ⟨⟨⟨_, rfl⟩, g1⟩, ⟨⟨_, rfl⟩, g2⟩, ?_⟩
                simp only [eqVals, eqB, g3]
                cases ((show Bool from x) == y) <;> rfl
              · cases h
            · cases h
/-- A type whose values are the same if their cells are. -/
def eqOkB (P : Program) (n : Nat) (T : TypeId) (cs : Scs) : Bool := match scT P n T with
  | some l => (match Scs.dec (Scs.ofL l) cs with
    | .isTrue _ => true
    | .isFalse _ => false) && Nat.beq l.length (P.cellsOf T) && eqTyB P n T && isAggT P T && !P.eqGuardType P.depth T && Nat.ble n 9000
  | none => false
theorem eqOk_of {n : Nat} {T : TypeId} {cs : Scs} (h : eqOkB P n T cs = true) : EqOk P T cs := by
  unfold eqOkB at h
  split at h
  · rename_i l hl
    simp only [Bool.and_eq_true, Bool.not_eq_true'] at h
    obtain ⟨⟨⟨⟨⟨h1, h2⟩, h3⟩, h4⟩, h5⟩, h6⟩ := h
    have h6 := Nat.le_of_ble_eq_true h6
    split at h1
    · rename_i e _
      subst e
      intro op x y ps qs u v c X bs w hop hu hv hc
      obtain ⟨g1, g2, g3⟩ := flatEq_vals hc hu hv
      refine ⟨run_eqGuard_agg w op T x y u v h5, ?_⟩
      have := eq_vals n hl h3 (10000 - n) g1 g2 (x := .agg u) (y := .agg v) (by rw [h4]; show _ = Value.agg _; simp) (by rw [h4]; show _ = Value.agg _; simp) w
      rw [show 10000 - n + n = 10000 by omega] at this
      unfold Op.equal Op.maxDepth
      rw [this, g3]
    · cases h1
  · cases h
def eqsB (P : Program) (n : Nat) (ty : List (TypeId × TI)) : List TypeId → Bool
  | [] => true
  | T :: l => (match look ty T with
    | some ti => match ti.vt with
      | .ag cs => eqOkB P n T cs
      | _ => true
    | none => true) && eqsB P n ty l
theorem eqsB_ok {n : Nat} {E : Env} : ∀ {l : List TypeId}, eqsB P n E.ty l = true → ∀ T ti cs, memb l T = true → E.tyOf T = some ti → ti.vt = .ag cs → EqOk P T cs
  | [], _, T, ti, cs, h, _, _ => by cases h
  | T' :: l, hb, T, ti, cs, h, ht, hv => by
    simp only [eqsB, Bool.and_eq_true] at hb
    simp only [memb] at h
    cases e : Nat.beq T' T with
    | true =>
      have e := Nat.eq_of_beq_eq_true e
      subst e
      have h1 := hb.1
      unfold Env.tyOf at ht
      rw [ht] at h1
      simp only [hv] at h1
      exact eqOk_of h1
    | false => rw [e] at h; exact eqsB_ok hb.2 T ti cs h ht hv
end
end Go.PgAM

-- The abstract machine's soundness, in the form in which the printed theorems call it.
namespace Go.PgAM
open Go Go.RowKit
variable {P : Program}
theorem soundTab_nil : SoundTab P (fun _ => none) := fun _ _ h => by cases h
theorem soundTab_cons {i : Nat} {c : Con} {t : Tab} (h1 : SoundCon P i c) (h2 : SoundTab P t) : SoundTab P (fun g => cond (Nat.beq g i) (some c) (t g)) := by
  intro f con h
  simp only at h
  cases e : Nat.beq f i with
  | true =>
    rw [e] at h
    cases h
    have e := Nat.eq_of_beq_eq_true e
    subst e
    exact h1
  | false =>
    rw [e] at h
    exact h2 f con h
theorem enters_go {f : FuncId} {fn : Func} (hf : P.funcs[f]? = some fn) (hb : fn.body.isSome = true) (hname : (fn.name == "runtime.NumGoroutine") = false) : Enters P f := by
  obtain ⟨c, hc⟩ := Option.isSome_iff_exists.1 hb
  exact enters_of hf hc hname
theorem sound_go {E : Env} (n : Nat) {f : FuncId} {fn : Func} (hf : P.funcs[f]? = some fn) (hb : fn.body.isSome = true) (hname : (fn.name == "runtime.NumGoroutine") = false) (hm : P.follows .mixedOrders = true) (hnt : Nat.ble E.nt fn.ntmps = true)
    (hty : tysB P E.ty = true) (heq : eqsB P n E.ty E.eqs = true) (con : Con) (hlo : Nat.ble E.lo con.as.length = true) (hC : SoundTab P E.C) (hrun : ∀ z y, con.f z = some y → arun E fn con.as con.rs z = some y) : SoundCon P f con := by
  obtain ⟨c, hc⟩ := Option.isSome_iff_exists.1 hb
  exact arun_sound hf hc hname hm (Nat.le_of_ble_eq_true hnt) hty hC (eqsB_ok heq) con (Nat.le_of_ble_eq_true hlo) hrun
end Go.PgAM
