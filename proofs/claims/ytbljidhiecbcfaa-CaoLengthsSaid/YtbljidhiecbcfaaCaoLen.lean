/-
  Slots that keep the order of lengths keep that of chains; in them one has a gap that is no less.
-/
import Derived.Test.YtbljidhiecbcfaaLc
import Derived.KernelRfl
namespace Go.PgAM
open Go
set_option linter.unusedVariables false
theorem wrap_id {x : Int} (h1 : -9223372036854775808 ≤ x) (h2 : x < 9223372036854775808) : w_i64 x = x := by
  unfold w_i64 IntKind.wrap
  simp [IntKind.signed, IntKind.bits]
  split <;> omega
theorem w_succ {k : Nat} (h : k < 4611686018427387904) : w_i64 ((k : Int) + 1) = ((k + 1 : Nat) : Int) := by
  rw [wrap_id (by omega) (by omega)]; omega
theorem w_pred {k : Nat} (h : k < 4611686018427387904) : w_i64 (((k + 1 : Nat) : Int) - 1) = (k : Int) := by
  rw [wrap_id (by omega) (by omega)]; omega
theorem idx_nat {α : Type} {l : List α} {k : Nat} (h : k < l.length) : idx l (k : Int) = some l[k] := by
  show l[k]? = _
  exact List.getElem?_eq_getElem h
theorem law13_awake_true : law13_awake 32 = some true := by kernel_rfl

noncomputable def meetB (x y : word_Word) : Bool := (word_Meet 0 x y).getD false
theorem meet_eq (N : Nat) (x y : word_Word) : word_Meet N x y = some (meetB x y) := rfl
def wOf (x : Ent) : word_Word := (x.1, x.2.1, x.2.2.1, x.2.2.2.1)
noncomputable def aboveB (x y : Ent) : Bool := decide (x.2.2.2.2.1 > y.2.2.2.2.1) && meetB (wOf x) (wOf y)
theorem above_eq (N : Nat) (x y : Ent) : entry_Above N x y = some (aboveB x y) := by
  show (cond (decide (x.2.2.2.2.1 > y.2.2.2.2.1)) ((word_Meet N (wOf x) (wOf y)).bind fun y1 => some y1) (some false)).bind (fun v2 => some v2) = _
  unfold aboveB
  cases decide (x.2.2.2.2.1 > y.2.2.2.2.1) with
  | true => rw [meet_eq]; rfl
  | false => rfl
theorem aboveB_len {x y : Ent} (h : aboveB x y = true) : y.2.2.2.2.1 < x.2.2.2.2.1 := by
  unfold aboveB at h
  rw [Bool.and_eq_true, decide_eq_true_eq] at h
  exact h.1

/-- The entries of the valid slots. -/
def ents : List bank_Slot → List Ent
  | [] => []
  | s :: l => cond s.1 (s.2 :: ents l) (ents l)
theorem ents_length : ∀ l, (ents l).length ≤ l.length
  | [] => Nat.le_refl _
  | s :: l => by
    have := ents_length l
    unfold ents
    cases s.1 <;> simp <;> omega
theorem entries_loop (N : Nat) (l : List bank_Slot) (hl : l.length ≤ 1000) : ∀ (n k : Nat) (acc : List Ent), k ≤ l.length → l.length < n + k → acc.length ≤ k →
    bank_Entries.l0 N n l (k : Int) acc = some (acc ++ ents (l.drop k))
  | 0, k, acc, hk, hn, _ => by omega
  | n + 1, k, acc, hk, hn, ha => by
    show bank_Entries.l0s N (bank_Entries.l0 N n) l (k : Int) acc = _
    unfold bank_Entries.l0s
    by_cases h : k < l.length
    · have hd : l.drop k = l[k] :: l.drop (k + 1) := (List.drop_eq_getElem_cons h)
      rw [show decide ((k : Int) < ((List.length l : Nat) : Int)) = true by simpa using h, idx_nat h]
      simp only [cond_true, Option.bind_some]
      rw [w_succ (by omega), hd]
      unfold ents
      cases l[k].1 with
      | true =>
        simp only [cond_true]
        unfold grd
        rw [show decide ((List.length acc + List.length [l[k].2]) * 48 ≤ room) = true from decide_eq_true (by
          simp only [List.length_singleton, room]; omega)]
        simp only [cond_true]
        rw [entries_loop N l hl n (k + 1) _ h (by omega) (by simp; omega)]
        simp
      | false =>
        simp only [cond_false]
        rw [entries_loop N l hl n (k + 1) _ h (by omega) (by omega)]
    · have hk : k = l.length := by omega
      rw [show decide ((k : Int) < ((List.length l : Nat) : Int)) = false by simp; omega]
      simp [hk, ents]
theorem entries_eq {N : Nat} {l : List bank_Slot} (hl : l.length ≤ 1000) (hN : l.length < N) : bank_Entries N l = some (ents l) := by
  show bank_Entries.l0 N N l ((0 : Nat) : Int) [] = _
  rw [entries_loop N l hl N 0 [] (by omega) (by omega) (by simp)]
  simp
/-- Is the row in the order of lengths? -/
theorem sorted_loop (N : Nat) (l : List Ent) (hl : l.length ≤ 1000) (f : Ent × Ent → Option Int) (hf : ∀ a, f a = some (c1 a.2.2.2.2.2.1 a.1.2.2.2.2.1)) : ∀ (n k : Nat), k < l.length ∨ k = 0 → k < n →
    ∃ b, slices_IsSortedFunc_entry_Entry.l0 N n l f (k : Int) = some b ∧ (b = true → ∀ i (h : i + 1 < l.length), i < k → l[i + 1].2.2.2.2.1 ≤ (l[i]'(by omega)).2.2.2.2.1)
  | 0, k, _, hn => by omega
  | n + 1, 0, _, hn => ⟨true, rfl, fun _ i h h2 => by omega⟩
  | n + 1, k + 1, hk, hn => by
    have hk : k + 1 < l.length := by omega
    obtain ⟨b, h1, h2⟩ := sorted_loop N l hl f hf n k (by omega) (by omega)
    show ∃ b, slices_IsSortedFunc_entry_Entry.l0s N (slices_IsSortedFunc_entry_Entry.l0 N n) l f ((k + 1 : Nat) : Int) = some b ∧ _
    unfold slices_IsSortedFunc_entry_Entry.l0s
    rw [show decide (((k + 1 : Nat) : Int) > 0) = true by simp, idx_nat hk, w_pred (by omega), idx_nat (show k < l.length by omega)]
    simp only [cond_true, Option.bind_some, hf]
    by_cases h3 : (l[k]'(by omega)).2.2.2.2.1 < l[k + 1].2.2.2.2.1
    · rw [show decide (c1 (l[k]'(by omega)).2.2.2.2.1 l[k + 1].2.2.2.2.1 < 0) = true by rw [decide_eq_true_eq, c1_lt]; exact h3]
      exact ⟨false, rfl, fun h => by cases h⟩
    · rw [show decide (c1 (l[k]'(by omega)).2.2.2.2.1 l[k + 1].2.2.2.2.1 < 0) = false by rw [decide_eq_false_iff_not, c1_lt]; exact h3]
      refine ⟨b, h1, fun hb i hi hik => ?_⟩
      by_cases e : i = k
      · subst e; omega
      · exact h2 hb i hi (by omega)
theorem sorted_all {l : List Ent} (h : ∀ i (h : i + 1 < l.length), l[i + 1].2.2.2.2.1 ≤ (l[i]'(by omega)).2.2.2.2.1) : ∀ (d i : Nat) (hi : i + d < l.length), l[i + d].2.2.2.2.1 ≤ (l[i]'(by omega)).2.2.2.2.1
  | 0, i, hi => Int.le_refl _
  | d + 1, i, hi => Int.le_trans (h (i + d) hi) (sorted_all h d i (by omega))
theorem kept_eq {N : Nat} {l : List bank_Slot} (hl : l.length ≤ 1000) (hN : l.length < N) : ∃ b, plo_Kept N l = some b ∧ (b = true → ∀ i j (hi : i < j) (hj : j < (ents l).length), (ents l)[j].2.2.2.2.1 ≤ ((ents l)[i]'(by omega)).2.2.2.2.1) := by
  have hle := ents_length l
  have key : ∃ b, slices_IsSortedFunc_entry_Entry N (ents l) (fun a2 => (plo_Kept_1 N a2.1 a2.2).bind fun c3 => some c3) = some b ∧ (b = true → ∀ i (h : i + 1 < (ents l).length), (ents l)[i + 1].2.2.2.2.1 ≤ ((ents l)[i]'(by omega)).2.2.2.2.1) := by
    have hf : ∀ a : Ent × Ent, (fun a2 : Ent × Ent => (plo_Kept_1 N a2.1 a2.2).bind fun c3 => some c3) a = some (c1 a.2.2.2.2.2.1 a.1.2.2.2.2.1) := fun a => by
      show ((plo_Kept_1.b N a.1 a.2).bind fun c3 => some c3) = _
      unfold plo_Kept_1.b
      rw [c1_eqn]; rfl
    show ∃ b, slices_IsSortedFunc_entry_Entry.l0 N N (ents l) _ (w_i64 (((List.length (ents l) : Nat) : Int) - 1)) = some b ∧ _
    rcases Nat.eq_zero_or_pos (ents l).length with e | e
    · obtain ⟨n, rfl⟩ : ∃ n, N = n + 1 := ⟨N - 1, by omega⟩
      refine ⟨true, ?_, fun _ i h => by omega⟩
      rw [e]
      rfl
    · obtain ⟨m, e⟩ : ∃ m, (ents l).length = m + 1 := ⟨(ents l).length - 1, by omega⟩
      obtain ⟨b, h1, h2⟩ := sorted_loop N (ents l) (by omega) _ hf N m (by omega) (by omega)
      refine ⟨b, ?_, fun hb i hi => h2 hb i (by omega) (by omega)⟩
      rw [e, w_pred (by omega)]
      exact h1
  obtain ⟨b, h1, h2⟩ := key
  refine ⟨b, ?_, fun hb i j hi hj => ?_⟩
  · show ((bank_Entries N l).bind fun y1 => (slices_IsSortedFunc_entry_Entry N y1 (fun a2 => (plo_Kept_1 N a2.1 a2.2).bind fun c3 => some c3)).bind fun y4 => some y4) = _
    rw [entries_eq hl hN]
    simp only [Option.bind_some, h1]
  · obtain ⟨d, rfl⟩ : ∃ d, j = i + d := ⟨j - i, by omega⟩
    exact sorted_all (h2 hb) d i hj
/-- No entry of a part is above. -/
theorem index_loop (N : Nat) (l : List Ent) (hl : l.length ≤ 1000) (f : Ent → Option Bool) (hf : ∀ a, a ∈ l → f a = some false) : ∀ (n k : Nat), k ≤ l.length → l.length < n + k →
    slices_IndexFunc_entry_Entry.l0 N n l f (k : Int) = some (-1)
  | 0, k, hk, hn => by omega
  | n + 1, k, hk, hn => by
    show slices_IndexFunc_entry_Entry.l0s N (slices_IndexFunc_entry_Entry.l0 N n) l f (k : Int) = _
    unfold slices_IndexFunc_entry_Entry.l0s
    by_cases h : k < l.length
    · rw [show decide ((k : Int) < ((List.length l : Nat) : Int)) = true by simpa using h, idx_nat h]
      simp only [cond_true, Option.bind_some, hf _ (List.getElem_mem h), cond_false]
      rw [w_succ (by omega)]
      exact index_loop N l hl f hf n (k + 1) h (by omega)
    · rw [show decide ((k : Int) < ((List.length l : Nat) : Int)) = false by simp; omega]
      rfl
theorem ordered_loop (N : Nat) (l : List Ent) (hl : l.length ≤ 1000) (hN : l.length < N) (hs : ∀ i j (hi : i < j) (hj : j < l.length), l[j].2.2.2.2.1 ≤ (l[i]'(by omega)).2.2.2.2.1) : ∀ (n k : Nat), k ≤ l.length → l.length < n + k →
    entry_Ordered.l0 N n l (k : Int) = some true
  | 0, k, hk, hn => by omega
  | n + 1, k, hk, hn => by
    show entry_Ordered.l0s N (entry_Ordered.l0 N n) l (k : Int) = _
    unfold entry_Ordered.l0s
    by_cases h : k < l.length
    · rw [show decide ((k : Int) < ((List.length l : Nat) : Int)) = true by simpa using h, idx_nat h]
      simp only [cond_true, Option.bind_some, grd]
      rw [show decide ((0 : Int) ≤ (k : Int)) = true by simp, show decide ((k : Int) ≤ ((List.length l : Nat) : Int)) = true by simp; omega]
      simp only [cond_true]
      have hidx : slices_ContainsFunc_entry_Entry N (List.drop (Int.toNat 0) (List.take (Int.toNat (k : Int)) l)) (fun a2 => (entry_Ordered_1 N a2 l[k]).bind fun c3 => some c3) = some false := by
        show ((slices_IndexFunc_entry_Entry.l0 N N (List.drop (Int.toNat 0) (List.take (Int.toNat (k : Int)) l)) _ ((0 : Nat) : Int)).bind fun y1 => some (decide (y1 ≥ 0))) = _
        rw [index_loop N _ (by simp; omega) _ (fun a ha => ?_) N 0 (by omega) (by simp; omega)]
        · rfl
        · show ((entry_Above N l[k] a).bind fun y1 => some y1).bind (fun c3 => some c3) = _
          rw [above_eq]
          simp only [Option.bind_some]
          congr 1
          cases hab : aboveB l[k] a with
          | false => rfl
          | true =>
            have h1 := aboveB_len hab
            simp only [Int.toNat_zero, List.drop_zero, Int.toNat_natCast] at ha
            obtain ⟨j, hj, rfl⟩ := List.getElem_of_mem ha
            simp only [List.length_take] at hj
            have h2 := hs j k (by omega) h
            rw [List.getElem_take] at h1
            omega
      rw [hidx]
      simp only [Option.bind_some, cond_false]
      rw [w_succ (by omega)]
      exact ordered_loop N l hl hN hs n (k + 1) h (by omega)
    · rw [show decide ((k : Int) < ((List.length l : Nat) : Int)) = false by simp; omega]
      rfl
theorem cao_kept {N : Nat} {l : List bank_Slot} (hl : l.length ≤ 1000) (hN : l.length < N) (hs : ∀ i j (hi : i < j) (hj : j < (ents l).length), (ents l)[j].2.2.2.2.1 ≤ ((ents l)[i]'(by omega)).2.2.2.2.1) : cao_Kept N l = some true := by
  show ((bank_Entries N l).bind fun y1 => (entry_Ordered N y1).bind fun y2 => some y2) = _
  rw [entries_eq hl hN]
  simp only [Option.bind_some]
  have hle := ents_length l
  have := ordered_loop N (ents l) (by omega) (by omega) hs N 0 (by omega) (by omega)
  rw [show entry_Ordered N (ents l) = some true from this]
  rfl
theorem above_part (N : Nat) (s : bank_Slot) (x y : Ent) : (cond s.1 ((entry_Above N x y).bind fun y3 => some y3) (some false)) = some (s.1 && aboveB x y) := by
  cases s.1 with
  | true => rw [above_eq]; rfl
  | false => rfl
theorem highest_loop (N : Nat) (l : List bank_Slot) (hl : l.length ≤ 1000) (x : Ent) : ∀ (n k : Nat), k ≤ l.length → k < n →
    ∃ h : Int, cao_highest.l0 N n l x ((k : Int) - 1) = some h ∧ (h = -1 ∨ ∃ (m : Nat) (hm : m < l.length), h = (m : Int) ∧ l[m].1 = true ∧ aboveB l[m].2 x = true)
  | 0, k, _, hn => by omega
  | n + 1, 0, _, _ => ⟨-1, rfl, .inl rfl⟩
  | n + 1, k + 1, hk, hn => by
    have hk : k < l.length := by omega
    obtain ⟨h, h1, h2⟩ := highest_loop N l hl x n k (by omega) (by omega)
    show ∃ h, cao_highest.l0s N (cao_highest.l0 N n) l x (((k + 1 : Nat) : Int) - 1) = some h ∧ _
    rw [show ((k + 1 : Nat) : Int) - 1 = (k : Int) by omega]
    unfold cao_highest.l0s
    rw [show decide ((k : Int) ≥ 0) = true by simp, idx_nat hk]
    simp only [cond_true, Option.bind_some, above_part]
    cases e : (l[k].1 && aboveB l[k].2 x) with
    | true =>
      rw [Bool.and_eq_true] at e
      exact ⟨(k : Int), rfl, .inr ⟨k, hk, rfl, e.1, e.2⟩⟩
    | false =>
      simp only [cond_false]
      rw [wrap_id (by omega) (by omega)]
      exact ⟨h, h1, h2⟩
theorem lowest_loop (N : Nat) (l : List bank_Slot) (hl : l.length ≤ 1000) (x : Ent) : ∀ (n k : Nat), k ≤ l.length → l.length < n + k →
    ∃ h : Nat, cao_lowest.l0 N n l x (k : Int) = some (h : Int) ∧ (h = l.length ∨ ∃ (hm : h < l.length), l[h].1 = true ∧ aboveB x l[h].2 = true)
  | 0, k, _, hn => by omega
  | n + 1, k, hk, hn => by
    show ∃ h : Nat, cao_lowest.l0s N (cao_lowest.l0 N n) l x (k : Int) = some (h : Int) ∧ _
    unfold cao_lowest.l0s
    by_cases hlt : k < l.length
    · obtain ⟨h, h1, h2⟩ := lowest_loop N l hl x n (k + 1) hlt (by omega)
      rw [show decide ((k : Int) < ((List.length l : Nat) : Int)) = true by simpa using hlt, idx_nat hlt]
      simp only [cond_true, Option.bind_some, above_part]
      cases e : (l[k].1 && aboveB x l[k].2) with
      | true =>
        rw [Bool.and_eq_true] at e
        exact ⟨k, rfl, .inr ⟨hlt, e.1, e.2⟩⟩
      | false =>
        simp only [cond_false]
        rw [w_succ (by omega)]
        exact ⟨h, h1, h2⟩
    · rw [show decide ((k : Int) < ((List.length l : Nat) : Int)) = false by simp; omega]
      exact ⟨l.length, rfl, .inl rfl⟩
theorem gap_loop (N : Nat) (l : List bank_Slot) (hl : l.length ≤ 1000) (n0 : Int) : ∀ (n k : Nat) (f t : Int), k ≤ l.length → l.length < n + k → 0 ≤ f → f ≤ k → t ≤ l.length →
    (∀ j (hj : j < l.length), j < k → l[j].1 = true → (n0 < l[j].2.2.2.2.2.1 → (j : Int) + 1 ≤ f) ∧ (l[j].2.2.2.2.2.1 < n0 → t ≤ j)) →
    ∃ f' t' : Int, plo_Gap.l0 N n l n0 f t (k : Int) = some (f', t') ∧ 0 ≤ f' ∧ t' ≤ l.length ∧ ∀ j (hj : j < l.length), l[j].1 = true → (n0 < l[j].2.2.2.2.2.1 → (j : Int) + 1 ≤ f') ∧ (l[j].2.2.2.2.2.1 < n0 → t' ≤ j)
  | 0, k, f, t, hk, hn, _, _, _, _ => by omega
  | n + 1, k, f, t, hk, hn, hf, hfk, ht, hi => by
    show ∃ f' t' : Int, plo_Gap.l0s N (plo_Gap.l0 N n) l n0 f t (k : Int) = some (f', t') ∧ _
    unfold plo_Gap.l0s
    by_cases hlt : k < l.length
    · rw [show decide ((k : Int) < ((List.length l : Nat) : Int)) = true by simpa using hlt, idx_nat hlt]
      simp only [cond_true, Option.bind_some]
      rw [w_succ (by omega)]
      have step : ∀ f2 t2 : Int, 0 ≤ f2 → f2 ≤ (k : Int) + 1 → t2 ≤ l.length → f ≤ f2 → t2 ≤ t → (l[k].1 = true → (n0 < l[k].2.2.2.2.2.1 → (k : Int) + 1 ≤ f2) ∧ (l[k].2.2.2.2.2.1 < n0 → t2 ≤ k)) →
          ∃ f' t' : Int, plo_Gap.l0 N n l n0 f2 t2 ((k + 1 : Nat) : Int) = some (f', t') ∧ 0 ≤ f' ∧ t' ≤ l.length ∧ ∀ j (hj : j < l.length), l[j].1 = true → (n0 < l[j].2.2.2.2.2.1 → (j : Int) + 1 ≤ f') ∧ (l[j].2.2.2.2.2.1 < n0 → t' ≤ j) := by
        intro f2 t2 a1 a0 a2 a3 a4 a5
        refine gap_loop N l hl n0 n (k + 1) f2 t2 hlt (by omega) a1 (by omega) a2 fun j hj hjk hv => ?_
        by_cases e : j = k
        · subst e; exact a5 hv
        · obtain ⟨b1, b2⟩ := hi j hj (by omega) hv
          exact ⟨fun h => Int.le_trans (b1 h) a3, fun h => Int.le_trans a4 (b2 h)⟩
      have hmin : minI t (k : Int) ≤ k ∧ minI t (k : Int) ≤ t := by unfold minI; split <;> omega
      cases hv : l[k].1 with
      | false =>
        simp only [cond_false, Option.bind_some]
        exact step f t hf (by omega) ht (Int.le_refl _) (Int.le_refl _) (fun h => by rw [hv] at h; cases h)
      | true =>
        simp only [cond_true, Option.bind_some]
        by_cases h1 : n0 < l[k].2.2.2.2.2.1
        · rw [show decide (l[k].2.2.2.2.2.1 > n0) = true from decide_eq_true h1, show decide (l[k].2.2.2.2.2.1 < n0) = false from decide_eq_false (by omega)]
          simp only [cond_true, cond_false]
          exact step _ t (by omega) (by omega) ht (by omega) (Int.le_refl _) (fun _ => ⟨fun _ => by omega, fun h => by omega⟩)
        · rw [show decide (l[k].2.2.2.2.2.1 > n0) = false from decide_eq_false h1]
          simp only [cond_false]
          by_cases h2 : l[k].2.2.2.2.2.1 < n0
          · rw [show decide (l[k].2.2.2.2.2.1 < n0) = true from decide_eq_true h2]
            simp only [cond_true]
            exact step f _ hf (by omega) (by omega) (Int.le_refl _) hmin.2 (fun _ => ⟨fun h => by omega, fun _ => hmin.1⟩)
          · rw [show decide (l[k].2.2.2.2.2.1 < n0) = false from decide_eq_false h2]
            simp only [cond_false]
            exact step f t hf (by omega) ht (Int.le_refl _) (Int.le_refl _) (fun _ => ⟨fun h => absurd h h1, fun h => absurd h h2⟩)
    · rw [show decide ((k : Int) < ((List.length l : Nat) : Int)) = false by simp; omega]
      exact ⟨f, t, rfl, hf, ht, fun j hj => hi j hj (by omega)⟩
/-- THE LAW: of whatever slots and whatever entry it answers true. -/
theorem caoLengths_true (l : List bank_Slot) (x : Ent) : law13_CaoLengths 32 l x = some true := by
  show ((cond (decide (((List.length l : Nat) : Int) > 20)) (some true) ((plo_Kept 32 l).bind fun y1 => some (!y1))).bind fun v2 => cond v2 ((law13_awake 32).bind fun y3 => some y3) ((plo_Gap 32 l x.2.2.2.2.1).bind fun y4 => (cao_Gap 32 l x).bind fun y5 => (cao_Kept 32 l).bind fun y6 => (cond y6 (some (decide (y5.1 ≤ y4.1))) (some false)).bind fun v7 => (cond v7 (some (decide (y5.2 ≥ y4.2))) (some false)).bind fun v8 => (cond v8 ((law13_awake 32).bind fun y9 => some y9) (some false)).bind fun v10 => some v10)) = some true
  rw [law13_awake_true]
  by_cases h20 : l.length > 20
  · rw [show decide (((List.length l : Nat) : Int) > 20) = true from decide_eq_true (by omega)]
    rfl
  · rw [show decide (((List.length l : Nat) : Int) > 20) = false from decide_eq_false (by omega)]
    obtain ⟨b, hk, hs⟩ := kept_eq (N := 32) (l := l) (by omega) (by omega)
    simp only [cond_false]
    rw [hk]
    simp only [Option.bind_some]
    cases b with
    | false => rfl
    | true =>
      obtain ⟨f, t, hg, hf, ht, hj⟩ := gap_loop 32 l (by omega) x.2.2.2.2.1 32 0 0 l.length (by omega) (by omega) (Int.le_refl _) (Int.le_refl _) (Int.le_refl _) (fun j _ h => by omega)
      obtain ⟨h, h1, h2⟩ := highest_loop 32 l (by omega) x 32 l.length (Nat.le_refl _) (by omega)
      obtain ⟨m, m1, m2⟩ := lowest_loop 32 l (by omega) x 32 0 (by omega) (by omega)
      have e1 : plo_Gap 32 l x.2.2.2.2.1 = some (f, t) := by
        show ((plo_Kept 32 l).bind fun y1 => cond (!y1) (some (0, 0)) (plo_Gap.l0 32 32 l x.2.2.2.2.1 0 ((List.length l : Nat) : Int) 0)) = _
        rw [hk]
        exact hg
      have e2 : cao_Gap 32 l x = some (w_i64 (h + 1), (m : Int)) := by
        show ((cao_highest.l0 32 32 l x (w_i64 (((List.length l : Nat) : Int) - 1))).bind fun y1 => (cao_lowest.l0 32 32 l x ((0 : Nat) : Int)).bind fun y2 => some ((w_i64 (y1 + 1)), y2)) = _
        rw [wrap_id (by omega) (by omega), h1, m1]
        rfl
      rw [e1, e2, cao_kept (by omega) (by omega) (hs rfl)]
      have hh : w_i64 (h + 1) ≤ f := by
        rcases h2 with rfl | ⟨j, hjl, rfl, hv, ha⟩
        · rw [wrap_id (by omega) (by omega)]; exact hf
        · rw [wrap_id (by omega) (by omega)]
          exact (hj j hjl hv).1 (aboveB_len ha)
      have hm : (m : Int) ≥ t := by
        rcases m2 with rfl | ⟨hml, hv, ha⟩
        · exact ht
        · exact (hj m hml hv).2 (aboveB_len ha)
      simp only [Bool.not_true, cond_false, Option.bind_some, cond_true]
      rw [decide_eq_true hh, decide_eq_true hm]
      rfl
end Go.PgAM
