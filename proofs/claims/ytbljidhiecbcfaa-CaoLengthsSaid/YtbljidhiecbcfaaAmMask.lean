/-
  Which operations are surely done ahead of which.
-/
import Derived.Test.YtbljidhiecbcfaaAmTab
namespace Go.PgAM
open Go Go.RowKit
set_option linter.unusedVariables false
set_option linter.unusedSimpArgs false

theorem nth_app {α : Type} (l m : List α) (i : Nat) (h : i < l.length) : nth (l ++ m) i = nth l i := by
  rw [nth_eq, nth_eq, List.getElem?_append_left h]
theorem masks_app : ∀ (l : List Oper) (ms : List Nat), ∃ r, masks ms l = ms ++ r ∧ r.length = l.length
  | [], ms => ⟨[], by simp [masks], rfl⟩
  | o :: l, ms => by
    obtain ⟨r, h1, h2⟩ := masks_app l (ms ++ [maskOf ms o.after.toList])
    exact ⟨maskOf ms o.after.toList :: r, by simp only [masks]; rw [h1]; simp, by simp [h2]⟩
theorem masks_get : ∀ (l : List Oper) (ms : List Nat) (q : Nat) (o : Oper), l[q]? = some o → nth (masks ms l) (ms.length + q) = some (maskOf ((masks ms l).take (ms.length + q)) o.after.toList)
  | [], ms, q, o, h => by simp at h
  | o' :: l, ms, 0, o, h => by
    simp at h; subst h
    simp only [masks, Nat.add_zero]
    obtain ⟨r, h1, _⟩ := masks_app l (ms ++ [maskOf ms o'.after.toList])
    rw [h1, nth_eq]
    simp
  | o' :: l, ms, q + 1, o, h => by
    simp only [masks]
    have := masks_get l (ms ++ [maskOf ms o'.after.toList]) q o (by simpa using h)
    simpa [Nat.add_assoc, Nat.add_comm 1] using this
theorem mask_or (a b i : Nat) : Nat.testBit (a ||| b) i = (Nat.testBit a i || Nat.testBit b i) := Nat.testBit_or a b i
theorem maskOf_bit (ms : List Nat) (b : Nat) : ∀ (es : List Edge), Nat.testBit (maskOf ms es) b = true ↔ ∃ e ∈ es, bindsAny e = true ∧ (e.on = b ∨ Nat.testBit ((nth ms e.on).getD 0) b = true)
  | [] => by simp [maskOf]
  | e :: es => by
    simp only [maskOf]
    have ih := maskOf_bit ms b es
    cases hb : bindsAny e with
    | true =>
      simp only [cond_true, mask_or, Bool.or_eq_true, ih, Nat.testBit_two_pow, decide_eq_true_eq, List.mem_cons]
      constructor
      · rintro ((⟨e', h1, h2⟩ | h) | h)
        · exact ⟨e', .inr h1, h2⟩
        · exact ⟨e, .inl rfl, hb, .inl h⟩
        · exact ⟨e, .inl rfl, hb, .inr h⟩
      · rintro ⟨e', rfl | h1, h2, h3⟩
        · rcases h3 with h3 | h3
          · exact .inl (.inr h3)
          · exact .inr h3
        · exact .inl (.inl ⟨e', h1, h2, h3⟩)
    | false =>
      simp only [cond_false, ih, List.mem_cons]
      constructor
      · rintro ⟨e', h1, h2⟩; exact ⟨e', .inr h1, h2⟩
      · rintro ⟨e', rfl | h1, h2⟩
        · rw [hb] at h2; exact absurd h2.1 (by simp)
        · exact ⟨e', h1, h2⟩
theorem msLow_ok : ∀ {l : List Nat} {i : Nat}, msLow i l = true → ∀ q m, l[q]? = some m → m < 2 ^ (i + q)
  | [], i, _, q, m, h => by simp at h
  | m' :: l, i, h, q, m, hq => by
    simp only [msLow, Bool.and_eq_true] at h
    cases q with
    | zero => simp at hq; subst hq; exact Nat.le_of_ble_eq_true h.1
    | succ q =>
      have := msLow_ok h.2 q m (by simpa using hq)
      rwa [show i + 1 + q = i + (q + 1) by omega] at this
def mkm (ms : List Nat) (i : Nat) : Nat := (nth ms i).getD 0
theorem bit_lt {m i b : Nat} (h : m < 2 ^ i) (hb : Nat.testBit m b = true) : b < i := by
  rcases Nat.lt_or_ge b i with h' | h'
  · exact h'
  · have : m < 2 ^ b := Nat.lt_of_lt_of_le h (Nat.pow_le_pow_right (by omega) h')
    rw [Nat.testBit_lt_two_pow this] at hb; cases hb

section
variable {all : List Oper}
theorem mk_of {i : Nat} {o : Oper} (h : all[i]? = some o) : mkm (masks [] all) i = maskOf ((masks [] all).take i) o.after.toList := by
  have := masks_get all [] i o h
  simp only [List.length_nil, Nat.zero_add] at this
  unfold mkm; rw [this]; rfl
theorem mk_none {i : Nat} (h : all.length ≤ i) : mkm (masks [] all) i = 0 := by
  obtain ⟨r, h1, h2⟩ := masks_app all []
  unfold mkm
  rw [h1, nth_eq]
  simp only [List.nil_append]
  rw [List.getElem?_eq_none (by omega)]; rfl
theorem mk_low (hl : msLow 0 (masks [] all) = true) (i : Nat) : ∀ b, Nat.testBit (mkm (masks [] all) i) b = true → b < i := by
  intro b hb
  unfold mkm at hb
  cases e : nth (masks [] all) i with
  | none => rw [e] at hb; simp at hb
  | some m =>
    rw [e] at hb
    rw [nth_eq] at e
    have := msLow_ok hl i m e
    exact bit_lt (by simpa using this) hb
theorem mk_bit (hl : msLow 0 (masks [] all) = true) {i b : Nat} {o : Oper} (h : all[i]? = some o) : Nat.testBit (mkm (masks [] all) i) b = true ↔ ∃ e ∈ o.after, bindsAny e = true ∧ (e.on = b ∨ Nat.testBit (mkm (masks [] all) e.on) b = true) := by
  rw [mk_of h, maskOf_bit]
  have hlow := mk_low hl i
  have key : ∀ e ∈ o.after.toList, bindsAny e = true → e.on < i := by
    intro e he hb
    refine hlow e.on ?_
    rw [mk_of h, maskOf_bit]
    exact ⟨e, he, hb, .inl rfl⟩
  have eqn : ∀ e ∈ o.after.toList, bindsAny e = true → nth ((masks [] all).take i) e.on = nth (masks [] all) e.on := by
    intro e he hb
    rw [nth_eq, nth_eq, List.getElem?_take, if_pos (key e he hb)]
  constructor
  · rintro ⟨e, h1, h2, h3⟩
    refine ⟨e, by simpa using h1, h2, h3.imp id fun h3 => ?_⟩
    rw [eqn e h1 h2] at h3; exact h3
  · rintro ⟨e, h1, h2, h3⟩
    have h1 : e ∈ o.after.toList := by simpa using h1
    refine ⟨e, h1, h2, h3.imp id fun h3 => ?_⟩
    rw [eqn e h1 h2]; exact h3
theorem mk_trans (hl : msLow 0 (masks [] all) = true) : ∀ (n i j b : Nat), i < n → Nat.testBit (mkm (masks [] all) i) j = true → Nat.testBit (mkm (masks [] all) j) b = true → Nat.testBit (mkm (masks [] all) i) b = true
  | 0, i, j, b, h, _, _ => by omega
  | n + 1, i, j, b, h, h1, h2 => by
    cases e : all[i]? with
    | none =>
      rw [mk_none (by
        rcases Nat.lt_or_ge i all.length with h' | h'
        · rw [List.getElem?_eq_getElem h'] at e; cases e
        · exact h')] at h1
      simp at h1
    | some o =>
      obtain ⟨e', q1, q2, q3⟩ := (mk_bit hl e).1 h1
      refine (mk_bit hl e).2 ⟨e', q1, q2, .inr ?_⟩
      rcases q3 with q3 | q3
      · rw [q3]; exact h2
      · have hlt : e'.on < i := mk_low hl i _ ((mk_bit hl e).2 ⟨e', q1, q2, .inl rfl⟩)
        exact mk_trans hl n e'.on j b (by omega) q3 h2
theorem tailAt_le (ms : List Nat) : ∀ n, tailAt ms n ≤ n
  | 0 => Nat.le_refl _
  | n + 1 => by
    simp only [tailAt]
    cases Nat.beq ((nth ms n).getD 0) (2 ^ n - 1) with
    | true => exact Nat.le_succ_of_le (tailAt_le ms n)
    | false => exact Nat.le_refl _
theorem tailAt_ok (ms : List Nat) : ∀ (n i : Nat), tailAt ms n ≤ i → i < n → mkm ms i = 2 ^ i - 1
  | 0, i, _, h => by omega
  | n + 1, i, h1, h2 => by
    simp only [tailAt] at h1
    cases e : Nat.beq ((nth ms n).getD 0) (2 ^ n - 1) with
    | true =>
      rw [e] at h1
      rcases Nat.lt_or_ge i n with h3 | h3
      · exact tailAt_ok ms n i h1 h3
      · have : i = n := by omega
        subst this
        exact Nat.eq_of_beq_eq_true e
    | false => rw [e] at h1; simp only [cond_false] at h1; omega
theorem lastPick_le : ∀ (l : List Oper) (r i : Nat), lastPick r i l ≤ max r (i + l.length)
  | [], r, i => by simp [lastPick]; omega
  | o :: l, r, i => by
    simp only [lastPick]
    split
    · have := lastPick_le l (i + 1) (i + 1)
      simp only [List.length_cons]; omega
    · have := lastPick_le l r (i + 1)
      simp only [List.length_cons]; omega
theorem guardsIn_ok {ms : List Nat} : ∀ {l : List Oper} {i : Nat}, guardsIn ms i l = true → ∀ q o j v, l[q]? = some o → o.guard = some (j, v) → Nat.testBit (mkm ms (i + q)) j = true
  | [], i, _, q, o, j, v, h, _ => by simp at h
  | o' :: l, i, h, q, o, j, v, hq, hg => by
    simp only [guardsIn, Bool.and_eq_true] at h
    cases q with
    | zero =>
      simp at hq; subst hq
      have := h.1
      rw [hg] at this
      exact this
    | succ q =>
      have := guardsIn_ok h.2 q o j v (by simpa using hq) hg
      rwa [show i + 1 + q = i + (q + 1) by omega] at this
theorem noDup_ok : ∀ {l : List Nat}, noDup l = true → l.Nodup
  | [], _ => List.nodup_nil
  | d :: l, h => by
    simp only [noDup] at h
    cases e : memb l d with
    | true => rw [e] at h; cases h
    | false => rw [e] at h; exact List.nodup_cons.2 ⟨memb_false e, noDup_ok h⟩
theorem mem_dstsOf : ∀ {l : List Oper} {q : Nat} {o : Oper} {d : Nat}, l[q]? = some o → o.dst = some d → d ∈ dstsOf l
  | [], q, o, d, h, _ => by simp at h
  | o' :: l, q, o, d, h, hd => by
    simp only [dstsOf, List.mem_append]
    cases q with
    | zero => simp at h; subst h; rw [hd]; exact .inl (by simp)
    | succ q => exact .inr (mem_dstsOf (by simpa using h) hd)
theorem dstsOf_inj : ∀ {l : List Oper}, (dstsOf l).Nodup → ∀ {q q' : Nat} {o o' : Oper} {d : Nat}, l[q]? = some o → l[q']? = some o' → o.dst = some d → o'.dst = some d → q = q'
  | [], _, q, q', o, o', d, h, _, _, _ => by simp at h
  | p :: l, hn, q, q', o, o', d, h1, h2, h3, h4 => by
    simp only [dstsOf] at hn
    obtain ⟨n1, n2, n3⟩ := List.nodup_append.1 hn
    have clash : ∀ {q : Nat} {o : Oper}, l[q]? = some o → o.dst = some d → p.dst = some d → False := fun h hd hp =>
      n3 d (by rw [hp]; simp) d (mem_dstsOf h hd) rfl
    cases q with
    | zero =>
      simp at h1; subst h1
      cases q' with
      | zero => rfl
      | succ q' => exact (clash (by simpa using h2) h4 h3).elim
    | succ q =>
      cases q' with
      | zero => simp at h2; subst h2; exact (clash (by simpa using h1) h3 h4).elim
      | succ q' =>
        have h1' : l[q]? = some o := by simpa using h1
        have h2' : l[q']? = some o' := by simpa using h2
        rw [dstsOf_inj n2 h1' h2' h3 h4]
theorem mem_dstIx : ∀ {l : List Oper} {i q : Nat} {o : Oper} {d : Nat}, l[q]? = some o → o.dst = some d → (i + q, d) ∈ dstIx i l
  | [], i, q, o, d, h, _ => by simp at h
  | o' :: l, i, q, o, d, h, hd => by
    simp only [dstIx]
    cases q with
    | zero => simp at h; subst h; rw [hd]; simp
    | succ q =>
      have := mem_dstIx (i := i + 1) (q := q) (l := l) (by simpa using h) hd
      rw [show i + 1 + q = i + (q + 1) by omega] at this
      cases o'.dst with
      | none => exact this
      | some d' => exact List.mem_cons_of_mem _ this
theorem allocAt_ok {d : Nat} : ∀ {l : List Oper} {i a : Nat}, allocAt d i l = some a → ∃ q o, a = i + q ∧ l[q]? = some o ∧ o.dst = some d
  | [], i, a, h => by cases h
  | o :: l, i, a, h => by
    have rest : allocAt d (i + 1) l = some a → ∃ q o', a = i + q ∧ (o :: l)[q]? = some o' ∧ o'.dst = some d := fun h => by
      obtain ⟨q, o', h1, h2, h3⟩ := allocAt_ok h
      exact ⟨q + 1, o', by omega, by simpa using h2, h3⟩
    simp only [allocAt] at h
    split at h
    · rename_i d' ho hd
      cases e : Nat.beq d' d with
      | true =>
        rw [e] at h
        have e := Nat.eq_of_beq_eq_true e
        subst e
        cases h
        exact ⟨0, o, rfl, rfl, hd⟩
      | false => rw [e] at h; exact rest h
    · exact rest h
theorem cond_true' {c x : Bool} (h : cond c x false = true) : c = true ∧ x = true := by cases c <;> simp_all
theorem storesOk_ok {ops : List Oper} {ms : List Nat} : ∀ {l : List Oper} {i : Nat}, storesOk ops ms i l = true → ∀ q o T t v, l[q]? = some o → o.op = .store T (.tmp t) v → storeOk ops ms (i + q) t = true ∧ o.guard = none
  | [], i, _, q, o, T, t, v, h, _ => by simp at h
  | o' :: l, i, h, q, o, T, t, v, hq, ho => by
    simp only [storesOk] at h
    cases q with
    | zero =>
      simp at hq; subst hq
      rw [ho] at h
      simp only at h
      cases e : storeOk ops ms i t && o'.guard.isNone with
      | false => rw [e] at h; cases h
      | true =>
        simp only [Bool.and_eq_true] at e
        exact ⟨e.1, Option.isNone_iff_eq_none.1 e.2⟩
    | succ q =>
      have ht : storesOk ops ms (i + 1) l = true := by
        split at h
        · obtain ⟨_, h⟩ := cond_true' h; exact h
        · exact h
      have := storesOk_ok ht q o T t v (by simpa using hq) ho
      rwa [show i + 1 + q = i + (q + 1) by omega] at this
theorem storeOk_ok {ops : List Oper} {ms : List Nat} {j t : Nat} (h : storeOk ops ms j t = true) : ∃ a, allocAt t 0 ops = some a ∧ Nat.testBit (mkm ms j) a = true ∧ ∀ i, i < ops.length → Nat.testBit (mkm ms i) a = true → i = j ∨ Nat.testBit (mkm ms i) j = true ∨ Nat.testBit (mkm ms j) i = true := by
  unfold storeOk at h
  split at h
  · cases h
  · rename_i a e
    simp only [Bool.and_eq_true] at h
    refine ⟨a, e, h.1, fun i hi hb => ?_⟩
    have := List.all_eq_true.1 h.2 i (List.mem_range.2 hi)
    simp only [Bool.or_eq_true, Bool.not_eq_true'] at this
    rcases this with ((h1 | h1) | h1) | h1
    · unfold mkm at hb; rw [hb] at h1; cases h1
    · exact .inl (Nat.eq_of_beq_eq_true h1)
    · exact .inr (.inl h1)
    · exact .inr (.inr h1)
end
end Go.PgAM
